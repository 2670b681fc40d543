/- Texts joined: LiveP LiveQ Vals LiveA LiveF LiveB LiveC LiveD LiveE LiveG. -/
import Derived.Test.YtebajiafdkokjaaDoorPlD
/- What is still needed, as plain functions and facts. No program in sight. -/
namespace Go.Proofs.YtebajiafdkokjaaDoor
open Go Go.RowKit

def namesR (l : List LVal) (r : Nat) : Bool := l.any fun v => v.reg && decide (v.n = r)
def valsOf (x : LIns) : List LVal := (if (shape x.op).2.1 then [x.a] else []) ++ ((if (shape x.op).2.2 then [x.b] else []) ++ x.args)
def usesOf (x : LIns) : List LVal := if x.op = 21 then [] else if x.op = 20 then x.args else if (2 ≤ x.op ∧ x.op ≤ 15) ∨ x.op = 19 then [x.a, x.b] else if 1 ≤ x.op ∧ x.op ≤ 22 then [x.a] else []
/-- a register that there is -/
def ValOk (R : Nat) (v : LVal) : Prop := v.reg = true → 0 ≤ v.n ∧ v.n < R
structure InsOk (R : Nat) (x : LIns) : Prop where
  op : 1 ≤ x.op ∧ x.op ≤ 22
  args : x.op ≠ 20 → x.args = []
  dst : 0 ≤ x.dst → x.dst < R
  vals : ∀ v ∈ valsOf x, ValOk R v
theorem uses_vals {R : Nat} {x : LIns} (h : InsOk R x) : usesOf x = valsOf x := by
  have h1 := h.op
  unfold usesOf valsOf shape
  by_cases e20 : x.op = 20
  · simp [e20]
  · rw [h.args e20]
    by_cases e21 : x.op = 21
    · simp [e21]
    · rw [if_neg e21, if_neg e20]
      by_cases e1 : ((x.op = 1 ∨ x.op = 16) ∨ x.op = 17) ∨ x.op = 18
      · rw [if_pos e1, if_neg (by omega), if_pos h1]; simp
      · rw [if_neg e1]
        by_cases e2 : 2 ≤ x.op ∧ x.op ≤ 15
        · rw [if_pos e2, if_pos (.inl e2)]; simp
        · rw [if_neg e2]
          by_cases e3 : x.op = 19
          · rw [if_pos e3, if_pos (.inr e3)]; simp
          · have e4 : x.op = 22 := by omega
            simp [e4]

def takeV (s : List Bool) (v : LVal) : List Bool := if v.reg then s.set v.n.toNat true else s
def insV (s : List Bool) (x : LIns) : List Bool := (valsOf x).foldl takeV (if 0 ≤ x.dst then s.set x.dst.toNat false else s)
theorem takeV_length (s : List Bool) (v : LVal) : (takeV s v).length = s.length := by unfold takeV; split <;> simp
theorem takes_length (l : List LVal) : ∀ s : List Bool, (l.foldl takeV s).length = s.length := by
  induction l with
  | nil => exact fun _ => rfl
  | cons v l ih => exact fun s => by rw [List.foldl_cons, ih, takeV_length]
theorem insV_length (s : List Bool) (x : LIns) : (insV s x).length = s.length := by unfold insV; rw [takes_length]; split <;> simp
def has (s : List Bool) (r : Nat) : Prop := s[r]? = some true
theorem has_takeV {s : List Bool} {v : LVal} {r : Nat} (hv : ValOk s.length v) : has (takeV s v) r ↔ (has s r ∨ (v.reg = true ∧ v.n = r)) := by
  unfold takeV has
  by_cases h : v.reg = true
  · have := hv h
    rw [if_pos h, List.getElem?_set]
    by_cases e : v.n.toNat = r
    · rw [if_pos e, if_pos (by omega)]
      simp only [true_iff]
      exact .inr ⟨h, by omega⟩
    · rw [if_neg e]
      exact ⟨.inl, fun h => h.resolve_right fun h => e (by omega)⟩
  · rw [if_neg h]
    exact ⟨.inl, fun h' => h'.resolve_right fun h' => h h'.1⟩
theorem has_takes {r : Nat} : ∀ (l : List LVal) (s : List Bool), (∀ v ∈ l, ValOk s.length v) → (has (l.foldl takeV s) r ↔ (has s r ∨ namesR l r = true))
  | [], s, _ => by simp [namesR]
  | v :: l, s, h => by
    rw [List.foldl_cons, has_takes l (takeV s v) (by rw [takeV_length]; exact fun u hu => h u (List.mem_cons_of_mem _ hu)), has_takeV (h v (by simp))]
    simp only [namesR, List.any_cons, Bool.or_eq_true, Bool.and_eq_true, decide_eq_true_eq, or_assoc]
theorem has_set_false {s : List Bool} {d r : Nat} : has (s.set d false) r ↔ (has s r ∧ d ≠ r) := by
  unfold has
  rw [List.getElem?_set]
  by_cases e : d = r
  · subst e
    simp only [if_true, ne_eq, not_true_eq_false, and_false, iff_false]
    split <;> simp
  · rw [if_neg e]; simp [e]
theorem has_insV {s : List Bool} {x : LIns} {r : Nat} (hx : InsOk s.length x) : has (insV s x) r ↔ (namesR (valsOf x) r = true ∨ (x.dst ≠ r ∧ has s r)) := by
  unfold insV
  rw [has_takes _ _ (by split <;> simpa using hx.vals)]
  by_cases h : 0 ≤ x.dst
  · rw [if_pos h, has_set_false]
    constructor
    · rintro (⟨h1, h2⟩ | h1)
      · exact .inr ⟨fun e => h2 (by omega), h1⟩
      · exact .inl h1
    · rintro (h1 | ⟨h1, h2⟩)
      · exact .inr h1
      · exact .inl ⟨h2, fun e => h1 (by omega)⟩
  · rw [if_neg h]
    constructor
    · rintro (h1 | h1)
      · exact .inr ⟨by omega, h1⟩
      · exact .inl h1
    · rintro (h1 | ⟨_, h1⟩)
      · exact .inr h1
      · exact .inl h1

/-! ### Who leads to a block; what its phis take -/
def preds (bl : List LBlock) (t : Nat) : List Nat := (List.range bl.length).filter fun i => decide ((t : Int) ∈ toOf bl i)
def phisOf (bl : List LBlock) (t : Nat) : List LPhi := match bl[t]? with | some B => B.phis | none => []
def noV : LVal := ⟨false, 0⟩
/-- does a phi of t take r from b? -/
def takesR (bl : List LBlock) (t b r : Nat) : Bool := (phisOf bl t).any fun p => namesR [p.src[(preds bl t).idxOf b]?.getD noV] r
structure PhiOk (R np : Nat) (p : LPhi) : Prop where
  dst : 0 ≤ p.dst ∧ p.dst < R
  len : p.src.length = np
  vals : ∀ v ∈ p.src, ValOk R v
structure BlockOk (R : Nat) (bl : List LBlock) (b : Nat) (B : LBlock) : Prop where
  phis : ∀ p ∈ B.phis, PhiOk R (preds bl b).length p
  list : ∀ x ∈ B.list, InsOk R x
  on : ValOk R B.on
  to : B.to.Nodup
structure FuncOk (R : Nat) (bl : List LBlock) : Prop where
  good : GoodB bl
  block : ∀ b B, bl[b]? = some B → BlockOk R bl b B

/-! ### Live -/
/-- is r live at a place of block b: -1 ahead of its phis, i ahead of instruction i, their number: ahead of the end, one more: behind it -/
inductive LiveS (bl : List LBlock) (r : Nat) : Nat → Int → Prop
  | phi {b : Nat} {B : LBlock} : bl[b]? = some B → (∀ p ∈ B.phis, p.dst ≠ r) → LiveS bl r b 0 → LiveS bl r b (-1)
  | use {b i : Nat} {B : LBlock} {x : LIns} : bl[b]? = some B → B.list[i]? = some x → namesR (usesOf x) r = true → LiveS bl r b i
  | go {b i : Nat} {B : LBlock} {x : LIns} : bl[b]? = some B → B.list[i]? = some x → x.dst ≠ r → LiveS bl r b (i + 1 : Nat) → LiveS bl r b i
  | on {b : Nat} {B : LBlock} : bl[b]? = some B → namesR [B.on] r = true → LiveS bl r b B.list.length
  | take {b : Nat} {B : LBlock} {j : Int} {t : Nat} : bl[b]? = some B → (j = B.list.length ∨ j = B.list.length + 1) → (t : Int) ∈ B.to → takesR bl t b r = true → LiveS bl r b j
  | jump {b : Nat} {B : LBlock} {j : Int} {t : Nat} : bl[b]? = some B → (j = B.list.length ∨ j = B.list.length + 1) → (t : Int) ∈ B.to → LiveS bl r t (-1) → LiveS bl r b j

/-- live behind block b, where what is live ahead of each block is told by I -/
def Beh (bl : List LBlock) (I : Nat → Nat → Prop) (b r : Nat) : Prop := ∃ t : Nat, (t : Int) ∈ toOf bl b ∧ (takesR bl t b r = true ∨ I t r)
/-- live ahead of instruction i -/
def Suf (l : List LIns) (on : LVal) (P : Nat → Prop) (r : Nat) : Prop := match l with
  | [] => namesR [on] r = true ∨ P r
  | x :: l => namesR (usesOf x) r = true ∨ (x.dst ≠ r ∧ Suf l on P r)
/-- live ahead of a block -/
def Head (bl : List LBlock) (I : Nat → Nat → Prop) (b r : Nat) : Prop := ∃ B, bl[b]? = some B ∧ (∀ p ∈ B.phis, p.dst ≠ r) ∧ Suf B.list B.on (Beh bl I b) r
theorem Beh.mono {bl : List LBlock} {I J : Nat → Nat → Prop} (h : ∀ t r, I t r → J t r) {b r : Nat} (k : Beh bl I b r) : Beh bl J b r := by
  obtain ⟨t, h1, h2⟩ := k
  exact ⟨t, h1, h2.imp id (h t r)⟩
theorem Suf.mono {on : LVal} {P Q : Nat → Prop} (h : ∀ r, P r → Q r) : ∀ {l : List LIns} {r : Nat}, Suf l on P r → Suf l on Q r
  | [], r, k => k.imp id (h r)
  | _ :: _, _, k => k.imp id fun ⟨h1, h2⟩ => ⟨h1, Suf.mono h h2⟩
theorem Suf.congr {on : LVal} {P Q : Nat → Prop} (h : ∀ r, P r ↔ Q r) {l : List LIns} {r : Nat} : Suf l on P r ↔ Suf l on Q r := ⟨Suf.mono fun r => (h r).1, Suf.mono fun r => (h r).2⟩
theorem Head.mono {bl : List LBlock} {I J : Nat → Nat → Prop} (h : ∀ t r, I t r → J t r) {b r : Nat} (k : Head bl I b r) : Head bl J b r := by
  obtain ⟨B, h1, h2, h3⟩ := k
  exact ⟨B, h1, h2, Suf.mono (fun r => Beh.mono h) h3⟩
/-- what is computed from live sets is live -/
theorem beh_live {bl : List LBlock} {I : Nat → Nat → Prop} (h : ∀ t r, I t r → LiveS bl r t (-1)) {b r : Nat} {B : LBlock} (hB : bl[b]? = some B) {j : Int} (hj : j = B.list.length ∨ j = B.list.length + 1) (k : Beh bl I b r) : LiveS bl r b j := by
  obtain ⟨t, h1, h2⟩ := k
  rw [toOf_get hB] at h1
  rcases h2 with h2 | h2
  · exact .take hB hj h1 h2
  · exact .jump hB hj h1 (h t r h2)
theorem suf_live {bl : List LBlock} {b r : Nat} {B : LBlock} (hB : bl[b]? = some B) {P : Nat → Prop} (hP : P r → LiveS bl r b B.list.length) : ∀ (l : List LIns) (i : Nat), B.list.drop i = l → Suf l B.on P r → i ≤ B.list.length → LiveS bl r b i
  | [], i, hd, k, hle => by
    have hi : i = B.list.length := by
      have := List.drop_eq_nil_iff.1 hd
      omega
    subst hi
    exact k.elim (fun h => .on hB h) hP
  | x :: l, i, hd, k, hle => by
    have hlt : i < B.list.length := by
      by_cases h : i < B.list.length
      · exact h
      · rw [List.drop_eq_nil_of_le (by omega)] at hd; cases hd
    have hx : B.list[i]? = some x := by
      have := congrArg (fun l => l[0]?) hd
      simpa using this
    have hd' : B.list.drop (i + 1) = l := by
      have := congrArg (List.drop 1) hd
      simpa [List.drop_drop] using this
    rcases k with k | ⟨k1, k2⟩
    · exact .use hB hx k
    · exact .go hB hx k1 (suf_live hB hP l (i + 1) hd' k2 (by omega))
theorem head_live {bl : List LBlock} {I : Nat → Nat → Prop} (h : ∀ t r, I t r → LiveS bl r t (-1)) {b r : Nat} (k : Head bl I b r) : LiveS bl r b (-1) := by
  obtain ⟨B, hB, h2, h3⟩ := k
  exact .phi hB h2 (suf_live hB (fun hP => beh_live h hB (.inl rfl) hP) B.list 0 rfl h3 (Nat.zero_le _))
/-- what is closed holds all that is live -/
theorem live_closed {bl : List LBlock} {I : Nat → Nat → Prop} {r : Nat} (h : ∀ b, Head bl I b r → I b r) {b : Nat} {j : Int} (k : LiveS bl r b j) :
    ∀ B, bl[b]? = some B → (j = -1 → I b r) ∧ (∀ i : Nat, j = i → i ≤ B.list.length → Suf (B.list.drop i) B.on (Beh bl I b) r) ∧ (j = B.list.length + 1 → Beh bl I b r) := by
  induction k with
  | @phi b B hB hp _ ih =>
    intro B' hB'
    rw [hB] at hB'; cases hB'
    have h1 := (ih B hB).2.1 0 rfl (Nat.zero_le _)
    exact ⟨fun _ => h b ⟨B, hB, hp, h1⟩, fun i hi => by omega, fun hj => by omega⟩
  | @use b i B x hB hx hn =>
    intro B' hB'
    rw [hB] at hB'; cases hB'
    have hlt := (List.getElem?_eq_some_iff.1 hx).1
    refine ⟨fun e => by omega, fun i' hi' _ => ?_, fun hj => by omega⟩
    have : i' = i := by omega
    subst this
    rw [List.drop_eq_getElem_cons hlt, show B.list[i'] = x from (List.getElem?_eq_some_iff.1 hx).2]
    exact .inl hn
  | @go b i B x hB hx hd _ ih =>
    intro B' hB'
    rw [hB] at hB'; cases hB'
    have hlt := (List.getElem?_eq_some_iff.1 hx).1
    refine ⟨fun e => by omega, fun i' hi' _ => ?_, fun hj => by omega⟩
    have : i' = i := by omega
    subst this
    rw [List.drop_eq_getElem_cons hlt, show B.list[i'] = x from (List.getElem?_eq_some_iff.1 hx).2]
    exact .inr ⟨hd, (ih B hB).2.1 (i' + 1) rfl (by omega)⟩
  | @on b B hB hn =>
    intro B' hB'
    rw [hB] at hB'; cases hB'
    refine ⟨fun e => by omega, fun i' hi' _ => ?_, fun hj => by omega⟩
    have : i' = B.list.length := by omega
    subst this
    rw [List.drop_length]
    exact .inl hn
  | @take b B j t hB hj ht hk =>
    intro B' hB'
    rw [hB] at hB'; cases hB'
    have hb : Beh bl I b r := ⟨t, by rw [toOf_get hB]; exact ht, .inl hk⟩
    refine ⟨fun e => by omega, fun i' hi' hle => ?_, fun _ => hb⟩
    have : i' = B.list.length := by omega
    subst this
    rw [List.drop_length]
    exact .inr hb
  | @jump b B j t hB hj ht _ ih =>
    intro B' hB'
    rw [hB] at hB'; cases hB'
    have hb : Beh bl I b r := by
      refine ⟨t, by rw [toOf_get hB]; exact ht, .inr ?_⟩
      cases hT : bl[t]? with
      | some T => exact (ih T hT).1 rfl
      | none =>
        rename_i hl
        cases hl with
        | phi hB2 => rw [hT] at hB2; cases hB2
        | take hB2 => rw [hT] at hB2; cases hB2
        | jump hB2 => rw [hT] at hB2; cases hB2
    refine ⟨fun e => by omega, fun i' hi' hle => ?_, fun _ => hb⟩
    have : i' = B.list.length := by omega
    subst this
    rw [List.drop_length]
    exact .inr hb
end Go.Proofs.YtebajiafdkokjaaDoor

/- From the check's facts to what the live sets lean on; the sets as lists. -/
namespace Go.Proofs.YtebajiafdkokjaaDoor
open Go Go.RowKit

/-! ### Predecessors -/
theorem aheadIn_get (i t : Nat) : ∀ (l : List Int) (rows : List (List Int)), (∀ z ∈ l, 0 ≤ z) → (l.foldl (aheadIn i) rows)[t]? = rows[t]?.map (· ++ (l.filter fun z : Int => decide (z = (t : Int))).map fun _ => (i : Int))
  | [], rows, _ => by
    simp only [List.foldl_nil, List.filter_nil, List.map_nil, List.append_nil]
    cases rows[t]? <;> rfl
  | z :: l, rows, h => by
    rw [List.foldl_cons, aheadIn_get i t l _ fun y hy => h y (List.mem_cons_of_mem _ hy)]
    have hz := h z (by simp)
    unfold aheadIn
    rw [List.getElem?_modify]
    by_cases e : z.toNat = t
    · have e2 : z = t := by omega
      rw [e]
      cases rows[t]? with
      | none => simp
      | some r => simp [e2]
    · have e2 : ¬ z = t := by omega
      cases hr : rows[t]? with
      | none => simp
      | some r => simp [e, e2]
theorem filter_one {l : List Int} (hn : l.Nodup) (t : Int) : l.filter (fun z : Int => decide (z = t)) = if t ∈ l then [t] else [] := by
  induction l with
  | nil => simp
  | cons z l ih =>
    rw [List.nodup_cons] at hn
    have := ih hn.2
    by_cases e : z = t
    · subst e
      rw [List.filter_cons_of_pos (by simp), this, if_neg hn.1, if_pos (by simp)]
    · rw [List.filter_cons_of_neg (by simpa using e), this]
      by_cases h : t ∈ l
      · rw [if_pos h, if_pos (List.mem_cons_of_mem _ h)]
      · rw [if_neg h, if_neg (by simp only [List.mem_cons, not_or]; exact ⟨fun h => e h.symm, h⟩)]
theorem aheadTo_get {bl : List LBlock} (hok : GoodB bl) (hto : ∀ (b : Nat) (B : LBlock), bl[b]? = some B → B.to.Nodup) {t : Nat} (ht : t < bl.length) : ∀ i, i ≤ bl.length → (aheadTo bl i)[t]? = some (((List.range i).filter fun i => decide ((t : Int) ∈ toOf bl i)).map fun x : Nat => (x : Int))
  | 0, _ => by simp [aheadTo, ht]
  | i + 1, hi => by
    obtain ⟨B, hB⟩ : ∃ B, bl[i]? = some B := ⟨_, List.getElem?_eq_getElem (by omega)⟩
    simp only [aheadTo, hB]
    rw [aheadIn_get i t _ _ fun z hz => ((hok B (List.mem_of_getElem? hB)).2 z hz).1, aheadTo_get hok hto ht i (by omega), filter_one (hto i B hB), List.range_succ, List.filter_append, List.map_append]
    simp only [Option.map_some, Option.some.injEq]
    congr 1
    by_cases h : (t : Int) ∈ B.to
    · rw [if_pos h]; simp [toOf_get hB, h]
    · rw [if_neg h]; simp [toOf_get hB, h]
theorem aheadL_get {bl : List LBlock} (hok : GoodB bl) (hto : ∀ (b : Nat) (B : LBlock), bl[b]? = some B → B.to.Nodup) {t : Nat} (ht : t < bl.length) : (aheadL bl)[t]? = some ((preds bl t).map fun x : Nat => (x : Int)) := aheadTo_get hok hto ht bl.length (Nat.le_refl _)

/-! ### What the check tells -/
theorem valErr_ok {R : Nat} {v : LVal} (h : valErr R v = 0) : ValOk R v := by
  intro hr
  unfold valErr within at h
  rw [hr] at h
  by_cases h1 : 0 ≤ v.n
  · by_cases h2 : v.n ≤ (R : Int) - 1
    · exact ⟨h1, by omega⟩
    · simp [h2] at h
  · simp [h1] at h
theorem dstErr_ok {R : Nat} {n : Int} (h : dstErr R n = 0) : 0 ≤ n ∧ n < R := by
  unfold dstErr within at h
  by_cases h1 : 0 ≤ n
  · by_cases h2 : n ≤ (R : Int) - 1
    · exact ⟨h1, by omega⟩
    · simp [h2] at h
  · simp [h1] at h
theorem at0_all {α : Type} {f : α → Int} {l : List α} (h : (firstI (at0 l f) l.length).1 = 0) : ∀ x ∈ l, f x = 0 := fun x hx => by
  obtain ⟨j, hj⟩ := List.getElem?_of_mem hx
  have := firstI_zero h j (List.getElem?_eq_some_iff.1 hj).1
  simpa [at0, hj] using this
theorem noVal_ok {R : Nat} {v : LVal} (h : noVal v = true) : ValOk R v := by
  intro hr
  unfold noVal at h
  rw [hr] at h
  cases h
theorem insErr_ok {fs : List LFunc} {R : Nat} {x : LIns} (h : insErr fs R x = 0) : InsOk R x := by
  unfold insErr at h
  split at h
  · cases h
  rename_i h1
  split at h
  · cases h
  rename_i h2
  split at h
  · rename_i h3
    simp only [Bool.and_eq_true, Bool.not_eq_true', decide_eq_false_iff_not] at h3
    exact absurd h h3.2
  rename_i h3
  split at h
  · rename_i h4; exact absurd h h4
  rename_i h4
  split at h
  · rename_i h5; exact absurd h h5
  rename_i h5
  have hop : 1 ≤ x.op ∧ x.op ≤ 22 := by simpa [within] using h1
  simp only [strayB, Bool.or_eq_true, Bool.and_eq_true, Bool.not_eq_true', decide_eq_false_iff_not, decide_eq_true_eq, not_or, not_and, Decidable.not_not, Bool.not_eq_false] at h2
  simp only [ne_eq, Decidable.not_not] at h4 h5
  have harg : x.op ≠ 20 → x.args = [] := fun e => by
    have := (h2.2 e).2
    exact List.eq_nil_of_length_eq_zero (by omega)
  refine ⟨hop, harg, fun hd => ?_, fun v hv => ?_⟩
  · by_cases hs : (shape x.op).1 = true
    · simp only [Bool.and_eq_true, Bool.not_eq_true', decide_eq_false_iff_not, hs, true_and, not_and, Decidable.not_not, Bool.and_eq_false_iff] at h3
      have := h3 (by
        by_cases e : x.op = 20
        · right; omega
        · left; exact e)
      exact (dstErr_ok this).2
    · have := h2.1.1.1 (by simpa using hs)
      omega
  · unfold valsOf at hv
    rcases List.mem_append.1 hv with hv | hv
    · split at hv
      · simp only [List.mem_singleton] at hv; subst hv; exact valErr_ok h4
      · cases hv
    · rcases List.mem_append.1 hv with hv | hv
      · split at hv
        · simp only [List.mem_singleton] at hv; subst hv; exact valErr_ok h5
        · cases hv
      · unfold callErr at h
        by_cases e : x.op = 20
        · rw [if_neg (by simpa using e)] at h
          split at h
          · cases h
          · split at h
            · cases h
            · exact valErr_ok (at0_all h v hv)
        · rw [harg e] at hv; cases hv
theorem endErr_ok {n R : Nat} {b : LBlock} (h : endErr n R b = 0) : ValOk R b.on ∧ b.to.Nodup := by
  unfold endErr endE at h
  split at h
  · cases h
  rename_i h1
  split at h
  · cases h
  rename_i h2
  split at h
  · cases h
  split at h
  · cases h
  rename_i h4
  refine ⟨valErr_ok h, ?_⟩
  simp only [within, Bool.not_eq_true', Bool.and_eq_false_iff, decide_eq_false_iff_not, not_or, Decidable.not_not] at h1
  simp only [ne_eq, Decidable.not_not] at h2
  simp only [Bool.or_eq_true, Bool.and_eq_true, decide_eq_true_eq, not_or, not_and] at h4
  have h5 := h4.1
  generalize b.to = l at h2 h5
  match l, h2, h5 with
  | [], _, _ => simp
  | [x], _, _ => simp
  | [x, y], h2, h5 =>
    have := h5 (by simp at h2; omega)
    simp at this
    simp [this]
  | x :: y :: z :: l, h2, _ => simp at h2; omega
theorem func_okF {fs : List LFunc} {f : LFunc} {R : Nat} (hR : f.regs = R) (h : bodyErr fs f = 0) : FuncOk R f.blocks := by
  have hg := bodyErr_good h
  unfold bodyErr at h
  split at h
  · rename_i h1; exact absurd h h1
  rename_i h1
  have hend := at0_all (by simpa using h1 : (firstI (at0 f.blocks (endErr f.blocks.length f.regs)) f.blocks.length).1 = 0)
  rw [hR] at hend
  have hto : ∀ (b : Nat) (B : LBlock), f.blocks[b]? = some B → B.to.Nodup := fun b B hB => (endErr_ok (hend B (List.mem_of_getElem? hB))).2
  refine ⟨hg, fun b B hB => ?_⟩
  have hb := firstI_zero h b (List.getElem?_eq_some_iff.1 hB).1
  simp only [blockErr, hB] at hb
  split at hb
  · rename_i h2; exact absurd hb h2
  rename_i h2
  have hphi := at0_all (by simpa using h2 : (firstI (at0 B.phis (phiErr f.regs f.blocks b)) B.phis.length).1 = 0)
  have hins := at0_all hb
  rw [hR] at hphi hins
  refine ⟨fun p hp => ?_, fun x hx => insErr_ok (hins x hx), (endErr_ok (hend B (List.mem_of_getElem? hB))).1, hto b B hB⟩
  have hp' := hphi p hp
  unfold phiErr phiE at hp'
  split at hp'
  · cases hp'
  split at hp'
  · rename_i h3; exact absurd hp' h3
  rename_i h3
  split at hp'
  · cases hp'
  rename_i h4
  rw [aheadL_get hg hto (List.getElem?_eq_some_iff.1 hB).1] at h4
  simp only [Option.getD_some, List.length_map, ne_eq, Decidable.not_not] at h4
  exact ⟨dstErr_ok (by simpa using h3), by omega, fun v hv => valErr_ok (at0_all hp' v hv)⟩
theorem check_head {u : LUnit} (h : (checkL u).1 = 0) {k : Nat} {X : LFunc} (hX : u.funcs[k]? = some X) : 0 ≤ X.params ∧ X.params ≤ X.regs ∧ X.regs ≤ 100 := by
  unfold checkL at h
  split at h
  · cases h
  · split at h
    · rename_i h2; exact absurd h h2
    · split at h
      · rename_i h2; exact absurd h h2
      · rename_i h3
        have hz := firstI_zero (by simpa using h3)
        have := hz k (List.getElem?_eq_some_iff.1 hX).1
        simp only [headAt, at0, hX, headErr] at this
        split at this
        · cases this
        split at this
        · cases this
        split at this
        · cases this
        rename_i h4
        simp only [within, Bool.or_eq_true, Bool.not_eq_true', Bool.and_eq_false_iff, decide_eq_false_iff_not, not_or, Decidable.not_not] at h4
        omega
/-- a function of a unit that passes the check -/
theorem check_func {u : LUnit} (h : (checkL u).1 = 0) {k : Nat} {X : LFunc} (hX : u.funcs[k]? = some X) : ∃ R : Nat, X.regs = R ∧ R ≤ 100 ∧ FuncOk R X.blocks := by
  have h1 := check_head h hX
  refine ⟨X.regs.toNat, by omega, by omega, func_okF (by omega) (check_bodies h X (List.mem_of_getElem? hX))⟩

/-! ### The sets as lists -/
theorem has_suf {R : Nat} {on : LVal} {P : Nat → Prop} {s : List Bool} (hs : s.length = R) (h0 : ∀ r, has s r ↔ Suf [] on P r) : ∀ l : List LIns, (∀ x ∈ l, InsOk R x) → (l.reverse.foldl insV s).length = R ∧ ∀ r, has (l.reverse.foldl insV s) r ↔ Suf l on P r
  | [], _ => ⟨hs, h0⟩
  | x :: l, h => by
    have ih := has_suf hs h0 l fun y hy => h y (List.mem_cons_of_mem _ hy)
    have hx := h x (by simp)
    rw [List.reverse_cons, List.foldl_append]
    simp only [List.foldl_cons, List.foldl_nil]
    refine ⟨by rw [insV_length]; exact ih.1, fun r => ?_⟩
    rw [has_insV (by rw [ih.1]; exact hx), ih.2 r]
    simp only [Suf]
    rw [uses_vals hx]
theorem has_phis {r : Nat} : ∀ (l : List LPhi) (s : List Bool), (∀ p ∈ l, 0 ≤ p.dst) → (has (l.foldl (fun s p => s.set p.dst.toNat false) s) r ↔ (has s r ∧ ∀ p ∈ l, p.dst ≠ r))
  | [], s, _ => by simp
  | p :: l, s, h => by
    have hp := h p (by simp)
    rw [List.foldl_cons, has_phis l _ fun q hq => h q (List.mem_cons_of_mem _ hq), has_set_false]
    simp only [List.mem_cons, forall_eq_or_imp, and_assoc]
    constructor
    · rintro ⟨h1, h2, h3⟩; exact ⟨h1, fun e => h2 (by omega), h3⟩
    · rintro ⟨h1, h2, h3⟩; exact ⟨h1, fun e => h2 (by omega), h3⟩
theorem phis_length (l : List LPhi) : ∀ s : List Bool, (l.foldl (fun s p => s.set p.dst.toNat false) s).length = s.length := by
  induction l with
  | nil => exact fun _ => rfl
  | cons p l ih => exact fun s => by rw [List.foldl_cons, ih, List.length_set]
/-- live ahead of a block by what is live behind it -/
def headV (B : LBlock) (s : List Bool) : List Bool := B.phis.foldl (fun s p => s.set p.dst.toNat false) (B.list.reverse.foldl insV (takeV s B.on))
theorem headV_length (B : LBlock) (s : List Bool) : (headV B s).length = s.length := by
  unfold headV
  rw [phis_length]
  have : ∀ l : List LIns, ∀ s : List Bool, (l.foldl insV s).length = s.length := by
    intro l
    induction l with
    | nil => exact fun _ => rfl
    | cons x l ih => exact fun s => by rw [List.foldl_cons, ih, insV_length]
  rw [this, takeV_length]
theorem has_headV {R : Nat} {bl : List LBlock} {b : Nat} {B : LBlock} {I : Nat → Nat → Prop} (hf : FuncOk R bl) (hB : bl[b]? = some B) {s : List Bool} (hs : s.length = R) (h : ∀ r, has s r ↔ Beh bl I b r) (r : Nat) : has (headV B s) r ↔ Head bl I b r := by
  have ho := hf.block b B hB
  unfold headV
  have h1 : ∀ r, has (takeV s B.on) r ↔ Suf [] B.on (Beh bl I b) r := fun r => by
    rw [has_takeV (by rw [hs]; exact ho.on), h r]
    simp only [Suf, namesR, List.any_cons, List.any_nil, Bool.or_false, Bool.and_eq_true, decide_eq_true_eq]
    exact or_comm
  have h2 := has_suf (by rw [takeV_length]; exact hs) h1 B.list ho.list
  rw [has_phis _ _ fun p hp => (ho.phis p hp).dst.1, h2.2 r]
  constructor
  · rintro ⟨h3, h4⟩; exact ⟨B, hB, h4, h3⟩
  · rintro ⟨B', hB', h3, h4⟩
    rw [hB] at hB'; cases hB'
    exact ⟨h4, h3⟩
end Go.Proofs.YtebajiafdkokjaaDoor

/- core.Vals: the iterator over the values of an instruction. -/
namespace Go.Proofs.YtebajiafdkokjaaDoor
open Go Go.RowKit

section
variable {P : Program} {N : Nat} {ds : List Deferred} {S : Nat → Prop} {w0 : World} {L : List (Nat × Value)} {H : List Ent} {ops : Array Oper} {rest : List Oper} {Q : Exit → Act → World → Prop} {p : Act → World → Prop}
/-- from here on the world as it is -/
theorem rebase {a : Act} {w : World} (hF : Fr N ds L a) (h : G N ds NoS w L [] p) : p a w := h a w ⟨hF, Wd.nil NoS w⟩
theorem g_base (h : ∀ w, Wd S w0 H w → G N ds NoS w L [] p) : G N ds S w0 L H p := fun a w hS => h w hS.wd a w ⟨hS.fr, Wd.nil NoS w⟩
/-- a call of yield -/
theorem g_yield {d ty l m : Nat} {args : List Operand} {vs : List Value} {tys : Array Nat} {pos : String} {aft : Array Go.Edge} {x : Operand} (R : World → Value → World → Prop) [hf : Ev L x (.func (.yield l) #[] #[])] [hx : Evs L args vs] (hd : okPut d N L = true)
    (hc : ∀ w, Wd S w0 H w → YieldAt (FW none) m P l vs.toArray w fun e w' => ∃ v, e = .returned v ∧ R w v w')
    (k : ∀ v w w', Wd S w0 H w → R w v w' → ∀ a, Fr N ds ((d, v) :: L) a → wpListIn (FW none) 0 P ops Q rest a w') : G N ds S w0 L H (wpListIn (FW none) 0 P ops Q (⟨some d, .call { callee := .value x, args := args.toArray, argTypes := tys }, ty, pos, aft, none⟩ :: rest)) := by
  intro a w hS
  obtain ⟨fn, tmps, assign, body, hy, hR⟩ := hc w hS.wd
  refine wpListIn_plain rfl fun K hK => ?_
  refine ⟨fun _ _ => trivial, ?_⟩
  rw [semAt_ne _ _ _ (fun _ h => by cases h)]
  have hr : (execOp a.eval ⟨some d, .call { callee := .value x, args := args.toArray, argTypes := tys }, ty, pos, aft, none⟩).run P w = .ok (.round l fn tmps assign body) w := by
    simp [execOp, resolve, hf.eq _ _ _ hS.fr, Deferred.ofValue, invoke, hx.eq _ _ _ hS.fr, hy]
  rw [hr]
  refine ⟨fun h => (by cases h), ?_⟩
  have hR0 : RoundIn (FW none) (0 - 1) P l fn tmps assign body w fun e w' => ∃ v, e = .returned v ∧ R w v w' := ⟨hR.1, fun c cs _ => hR.2 c cs (fun d hd => by cases hd)⟩
  refine hR0.mono fun e w' ⟨v, he, hv⟩ => ?_
  subst he
  exact hK _ _ (k v w w' hS.wd hv _ (hS.fr.putOk hd v))
/-- once slot d is written, M holds -/
theorem g_joinM {ro : Option Nat} {l l1 l2 : List Oper} (d : Nat) (M : Act → World → Prop) [hs : SplitTo l d l1 l2] (h1 : G N ds S w0 L H (wpListIn (FW ro) 0 P ops (Exit.then M Q) l1)) (h2 : ∀ a w, M a w → wpListIn (FW ro) 0 P ops Q l2 a w) : G N ds S w0 L H (wpListIn (FW ro) 0 P ops Q l) := fun a w hS => by
  obtain ⟨n, e1, e2⟩ := hs.eq
  exact wpl_split (M := M) n (fun a w h => by rw [e2]; exact h2 a w h) (by rw [e1]; exact h1 a w hS)
/-- it holds here -/
theorem g_here {M : Act → World → Prop} {a : Act} {w : World} (h : M a w) : M a w := h
end
theorem CellsAt.mono {w w' : World} (h : ∀ p v, w.cell? p = some v → w'.cell? p = some v) {b o : Nat} {cs : List Value} (hc : CellsAt w b o cs) : CellsAt w' b o cs := fun j v hj => h _ _ (hc j v hj)
theorem SlAt.mono {α : Type} {V : World → α → List Value → Prop} {w w' : World} (hV : ∀ x cs, V w x cs → V w' x cs) (h : ∀ p v, w.cell? p = some v → w'.cell? p = some v) {v : Value} {s : Nat} {l : List α} (hs : SlAt w v s l V) : SlAt w' v s l V := by
  obtain ⟨a, n, c, b, o, h1, h2, h3, hz, h4, h5, h6⟩ := hs
  refine ⟨a, n, c, b, o, h1, h2, h3, hz, h4, h5, fun i x hx => ?_⟩
  obtain ⟨cs, hc, hv⟩ := h6 i x hx
  exact ⟨cs, hc.mono h, hV x cs hv⟩
theorem Chg.cells {w w' : World} (h : Chg NoS w w') : ∀ p v, w.cell? p = some v → w'.cell? p = some v := fun _ _ hc => cell_keep h hc
/-- new memory alone: an iterator's caller does not mind -/
theorem jchg {β : Type} {B : Nat} {J : β → World → Prop} (h : AbidesFrom B J) {s : β} {w w' : World} (hc : Chg NoS w w') (hs : J s w) : J s w' :=
  h s w w' none hs ⟨hc.os, hc.tape, hc.output, hc.size, fun k hk _ => hc.block k hk fun h => h⟩ (fun r e => by cases e)
attribute [local irreducible] wpListIn Code.wpIn Exit.then Exit.inBlock bodyPost wpQuiet wpAnyIn
set_option maxHeartbeats 4000000

theorem vals_c (x : LIns) (xv : Value) (hxv : ∃ a n c, xv = .slice a n c) (w0 : World) :
    Ret Tryd.prog 115 [.agg #[.int .i64 x.op, .int .i64 x.dst, .bool x.a.reg, .int .i64 x.a.n, .bool x.b.reg, .int .i64 x.b.n, .int .i64 x.fn, xv]] w0 fun u w' => ∃ p : Nat, u = .func (.func 136) #[] #[.pointer (some ⟨p, 0, none⟩)] ∧ Wd NoS w0 [Ent.box p [.int .i64 x.op, .int .i64 x.dst, .bool x.a.reg, .int .i64 x.a.n, .bool x.b.reg, .int .i64 x.b.n, .int .i64 x.fn, xv] 114] w' ∧ True := by
  obtain ⟨a, n, c, rfl⟩ := hxv
  refine ret_enter Tryd.func115 rfl Tryd.ntmps115 rfl (Wd.nil NoS w0) ?_
  repeat (first | refine g_op rfl ?_ | refine g_then ?_ | refine g_nil ?_ | refine g_region ?_ | refine g_seq ?_ | refine g_opS rfl ?_ | refine g_box rfl fun _ _ => ?_ | refine g_ret ?_)
  exact g_ret1 rfl fun w hw => ⟨_, rfl, hw, trivial⟩
theorem vals1_c {α : Type} (enc : α → LVal) (x : LIns) (va : Option Addr) (vn vc : Nat) (xs : List α) (hxs : xs.map enc = valsOf x) (hlen : x.args.length ≤ 100000) (l bp : Nat) (own : Nat → Prop) (wz : World) (hsl : SlAt wz (.slice va vn vc) 2 x.args ValV) (hown : ∀ b, b < wz.heap.size → ¬ own b) (hbp : ¬ own bp) (W : World) (hownW : ∀ b, W.heap.size ≤ b → ¬ own b) (J Jx : List α → World → Prop) (B : Nat) (hJ : AbidesFrom B J) (hJx : AbidesFrom B Jx)
    (hY : ∀ pre y W, J pre W → pre.length < xs.length → YieldAt (FW none) 3 Tryd.prog l #[.agg #[.bool (enc y).reg, .int .i64 (enc y).n]] W fun e W' =>
      (e = .returned (.bool true) ∧ J (pre ++ [y]) W' ∧ KeepX own W W') ∨ (e = .returned (.bool false) ∧ Jx (pre ++ [y]) W'))
    (hz : ∀ p v, wz.cell? p = some v → W.cell? p = some v) (hc : CellsAt W bp 0 [.int .i64 x.op, .int .i64 x.dst, .bool x.a.reg, .int .i64 x.a.n, .bool x.b.reg, .int .i64 x.b.n, .int .i64 x.fn, .slice va vn vc]) (h0 : J [] W) :
    Ret Tryd.prog 136 [.func (.yield l) #[] #[], .pointer (some ⟨bp, 0, none⟩)] W fun _ W' => (∃ ys, ys = xs ∧ J ys W') ∨ (∃ pre, pre <+: xs ∧ Jx pre W') := by
  have hbpi : CellsIs W bp 0 _ := ⟨hc⟩
  refine ret_enter Tryd.func136 rfl Tryd.ntmps136 rfl (Wd.nil NoS W) ?_
  repeat (first | refine g_op rfl ?_ | refine g_region ?_ | refine g_seq ?_)
  refine g_callV rfl (fun w hw => shapes_c x.op w) ?_
  repeat (first | refine g_op rfl ?_ | refine g_then ?_ | refine g_nil ?_ | refine g_region ?_ | refine g_seq ?_ | refine g_alloc rfl fun _ _ => ?_ | refine g_storeAgg ?_)
  rename_i p3 hp3
  have henc : ∀ j v, (valsOf x)[j]? = some v → ∃ y, xs[j]? = some y ∧ enc y = v := fun j v hj => by
    rw [← hxs, List.getElem?_map] at hj
    obtain ⟨y, hy, e⟩ := Option.map_eq_some_iff.1 hj
    exact ⟨y, hy, e⟩
  have hxl : xs.length = (valsOf x).length := by have := congrArg List.length hxs; rwa [List.length_map] at this
  have htk : ∀ j y, xs[j]? = some y → xs.take j ++ [y] = xs.take (j + 1) := fun j y hy => by rw [List.take_add_one, hy]; rfl
  -- one more value
  have step : ∀ j v, (valsOf x)[j]? = some v → ∀ w, J (xs.take j) w → YieldAt (FW none) 3 Tryd.prog l [Value.agg #[.bool v.reg, .int .i64 v.n]].toArray w fun e W' => ∃ u, e = .returned u ∧ ((u = .bool true ∧ J (xs.take (j + 1)) W' ∧ KeepX own w W') ∨ (u = .bool false ∧ Jx (xs.take (j + 1)) W')) := fun j v hj w hJw => by
    obtain ⟨y, hy, rfl⟩ := henc j v hj
    have hlt := (List.getElem?_eq_some_iff.1 hy).1
    have := hY (xs.take j) y w hJw (by rw [List.length_take]; omega)
    rw [htk j y hy] at this
    exact this.mono fun e W' h => h.elim (fun ⟨h1, h2, h3⟩ => ⟨_, h1, .inl ⟨rfl, h2, h3⟩⟩) fun ⟨h1, h2⟩ => ⟨_, h1, .inr ⟨rfl, h2⟩⟩
  have keepW : ∀ w, (∀ p v, wz.cell? p = some v → w.cell? p = some v) → ∀ w', KeepX own w w' → ∀ p v, wz.cell? p = some v → w'.cell? p = some v := fun w h w' hk p v hp => hk.cell (hown _ (World.block_lt_of_cell? wz p hp)) (h p v hp)
  have keepC : ∀ b cs, ¬ own b → ∀ w, CellsAt w b 0 cs → ∀ w', KeepX own w w' → CellsAt w' b 0 cs := fun b cs hb w h w' hk j v hj => hk.cell hb (h j v hj)
  unfold valsOf at hxl step
  generalize shape x.op = sh at hxl step ⊢
  obtain ⟨s1, sA, sB⟩ := sh
  simp only at hxl step ⊢
  have hn3 : ¬ own p3 := hownW p3 hp3
  refine g_joinM 18 (fun a w => (Fr 41 [] [(18, .bool false), (3, .pointer (some ⟨p3, 0, none⟩)), (0, .func (.yield l) #[] #[]), (1, .pointer (some ⟨bp, 0, none⟩))] a ∧ J (xs.take (if sA then 1 else 0)) w ∧ (∀ p v, wz.cell? p = some v → w.cell? p = some v) ∧ CellsAt w bp 0 [.int .i64 x.op, .int .i64 x.dst, .bool x.a.reg, .int .i64 x.a.n, .bool x.b.reg, .int .i64 x.b.n, .int .i64 x.fn, .slice va vn vc] ∧ CellsAt w p3 0 [.bool s1, .bool sA, .bool sB]) ∨ (Fr 41 [] [(18, .bool true), (0, .func (.yield l) #[] #[]), (1, .pointer (some ⟨bp, 0, none⟩))] a ∧ ∃ pre, pre <+: xs ∧ Jx pre w)) ?_ ?_
  · cases sA
    · repeat (first | refine g_op rfl ?_ | refine g_then ?_ | refine g_nil ?_ | refine g_pass rfl ?_)
      exact fun a w hS => .inl ⟨hS.fr.to (by repeat (first | exact trivial | refine ⟨rfl, ?_⟩)), jchg hJ hS.wd.chg (by simpa using h0), fun p v h => cell_keep hS.wd.chg (hz p v h), hc.keep hS.wd.chg, hS.wd.boxCells p3⟩
    · repeat (first | refine g_op rfl ?_ | refine g_open ?_)
      refine g_yield (m := 3) (fun w v w' => (v = .bool true ∧ J (xs.take 1) w' ∧ KeepX own w w') ∨ (v = .bool false ∧ Jx (xs.take 1) w')) rfl (fun w hw => step 0 x.a rfl w (jchg hJ hw.chg (by simpa using h0))) fun v w w' hw hR a hF => ?_
      rcases hR with ⟨rfl, hJ', hk⟩ | ⟨rfl, hJ'⟩
      · have hb' := keepC bp _ hbp w (hc.keep hw.chg) w' hk
        have h3' := keepC p3 _ hn3 w (hw.boxCells p3) w' hk
        have hz' := keepW w (fun p v h => cell_keep hw.chg (hz p v h)) w' hk
        refine rebase hF ?_
        repeat (first | refine g_op rfl ?_ | refine g_then ?_ | refine g_nil ?_ | refine g_open ?_)
        exact fun a w hS => .inl ⟨hS.fr.to (by repeat (first | exact trivial | refine ⟨rfl, ?_⟩)), jchg hJ hS.wd.chg hJ', fun p v h => cell_keep hS.wd.chg (hz' p v h), hb'.keep hS.wd.chg, h3'.keep hS.wd.chg⟩
      · refine rebase hF ?_
        repeat (first | refine g_op rfl ?_ | refine g_then ?_ | refine g_nil ?_ | refine g_open ?_)
        exact fun a w hS => .inr ⟨hS.fr.to (by repeat (first | exact trivial | refine ⟨rfl, ?_⟩)), _, List.take_prefix _ _, jchg hJx hS.wd.chg hJ'⟩
  intro a w hM
  rcases hM with ⟨hF, hJA, hzA, hbA, h3A⟩ | ⟨hF, pre, hpre, hJA⟩
  case inr =>
    refine rebase hF ?_
    repeat (first | refine g_op rfl ?_ | refine g_then ?_ | refine g_nil ?_ | refine g_pass rfl ?_ | refine g_condT ?_ | refine g_ret ?_ | refine g_thenRet ?_ | refine g_passU rfl ?_)
    exact g_ret0 rfl fun w' hw' => .inr ⟨pre, hpre, jchg hJx hw'.chg hJA⟩
  refine rebase hF ?_
  have hbi : CellsIs w bp 0 _ := ⟨hbA⟩
  have h3i : CellsIs w p3 0 _ := ⟨h3A⟩
  repeat (first | refine g_op rfl ?_ | refine g_open ?_)
  refine g_joinM 28 (fun a w => (Fr 41 [] [(28, .bool false), (0, .func (.yield l) #[] #[]), (1, .pointer (some ⟨bp, 0, none⟩))] a ∧ J (xs.take ((if sA then 1 else 0) + (if sB then 1 else 0))) w ∧ (∀ p v, wz.cell? p = some v → w.cell? p = some v) ∧ CellsAt w bp 0 [.int .i64 x.op, .int .i64 x.dst, .bool x.a.reg, .int .i64 x.a.n, .bool x.b.reg, .int .i64 x.b.n, .int .i64 x.fn, .slice va vn vc]) ∨ (Fr 41 [] [(28, .bool true), (0, .func (.yield l) #[] #[]), (1, .pointer (some ⟨bp, 0, none⟩))] a ∧ ∃ pre, pre <+: xs ∧ Jx pre w)) ?_ ?_
  · cases sB
    · repeat (first | refine g_op rfl ?_ | refine g_then ?_ | refine g_nil ?_ | refine g_open ?_ | refine g_pass rfl ?_)
      exact fun a w2 hS => .inl ⟨hS.fr.to (by repeat (first | exact trivial | refine ⟨rfl, ?_⟩)), jchg hJ hS.wd.chg (by simpa using hJA), fun p v h => cell_keep hS.wd.chg (hzA p v h), hbA.keep hS.wd.chg⟩
    · repeat (first | refine g_op rfl ?_ | refine g_open ?_)
      refine g_yield (m := 3) (fun w v w' => (v = .bool true ∧ J (xs.take ((if sA then 1 else 0) + 1)) w' ∧ KeepX own w w') ∨ (v = .bool false ∧ Jx (xs.take ((if sA then 1 else 0) + 1)) w')) rfl (fun w2 hw => step (if sA then 1 else 0) x.b (by cases sA <;> rfl) w2 (jchg hJ hw.chg hJA)) fun v w2 w' hw hR a hF => ?_
      rcases hR with ⟨rfl, hJ', hk⟩ | ⟨rfl, hJ'⟩
      · have hb' := keepC bp _ hbp w2 (hbA.keep hw.chg) w' hk
        have hz' := keepW w2 (fun p v h => cell_keep hw.chg (hzA p v h)) w' hk
        refine rebase hF ?_
        repeat (first | refine g_op rfl ?_ | refine g_then ?_ | refine g_nil ?_ | refine g_open ?_)
        exact fun a w hS => .inl ⟨hS.fr.to (by repeat (first | exact trivial | refine ⟨rfl, ?_⟩)), jchg hJ hS.wd.chg hJ', fun p v h => cell_keep hS.wd.chg (hz' p v h), hb'.keep hS.wd.chg⟩
      · refine rebase hF ?_
        repeat (first | refine g_op rfl ?_ | refine g_then ?_ | refine g_nil ?_ | refine g_open ?_)
        exact fun a w hS => .inr ⟨hS.fr.to (by repeat (first | exact trivial | refine ⟨rfl, ?_⟩)), _, List.take_prefix _ _, jchg hJx hS.wd.chg hJ'⟩
  intro a w hM
  rcases hM with ⟨hF, hJB, hzB, hbB⟩ | ⟨hF, pre, hpre, hJB⟩
  case inr =>
    refine rebase hF ?_
    repeat (first | refine g_then ?_ | refine g_nil ?_ | refine g_condT ?_ | refine g_ret ?_ | refine g_thenRet ?_)
    exact g_ret0 rfl fun w' hw' => .inr ⟨pre, hpre, jchg hJx hw'.chg hJB⟩
  refine rebase hF ?_
  have hbi2 : CellsIs w bp 0 _ := ⟨hbB⟩
  repeat (first | refine g_op rfl ?_ | refine g_then ?_ | refine g_nil ?_ | refine g_region ?_ | refine g_seq ?_ | refine g_block ?_ | refine g_skip ?_ | refine g_condF ?_)
  generalize hc0 : (if sA = true then 1 else 0) + (if sB = true then 1 else 0) = c0 at hJB
  have hn : vn = x.args.length := by
    obtain ⟨_, _, _, _, _, e, h, _⟩ := hsl
    simp only [Value.slice.injEq] at e
    rw [e.2.1]; exact h
  have hstep : ∀ i v, x.args[i]? = some v → ((if sA = true then [x.a] else []) ++ ((if sB = true then [x.b] else []) ++ x.args))[c0 + i]? = some v := fun i v hi => by
    subst hc0
    cases sA <;> cases sB <;> simp [hi, Nat.add_comm]
  have hxl2 : xs.length = c0 + x.args.length := by
    subst hc0
    rw [hxl]
    cases sA <;> cases sB <;> simp <;> omega
  intro a w1 hS1
  have hJ1 := jchg hJ hS1.wd.chg hJB
  have hz1 := fun p v h => cell_keep hS1.wd.chg (hzB p v h)
  have hF1 := hS1.fr
  refine c_loop (fun (i : Nat) a w => i ≤ vn ∧ Fr 41 [] [(32, .int .i64 (i : Int)), (30, .slice va vn vc), (31, .int .i64 vn), (0, .func (.yield l) #[] #[]), (1, .pointer (some ⟨bp, 0, none⟩))] a ∧ J (xs.take (c0 + i)) w ∧ ∀ p v, wz.cell? p = some v → w.cell? p = some v) (fun i => vn - i) 0 ⟨Nat.zero_le _, hF1.to (by repeat (first | exact trivial | refine ⟨rfl, ?_⟩)), by simpa using hJ1, hz1⟩ ?_
  rintro i a w ⟨hi, hF, hJi, hzi⟩
  refine rebase hF ?_
  repeat (first | refine g_op rfl ?_ | refine g_then ?_ | refine g_nil ?_ | refine g_region ?_ | refine g_seq ?_)
  refine g_cond (fun h1 => ?_) (fun h1 => ?_)
  · have hlt : i < vn := by simpa using h1
    obtain ⟨v, hv⟩ : ∃ v, x.args[i]? = some v := ⟨_, List.getElem?_eq_getElem (by omega)⟩
    have hsl2 : SlAt w (.slice va vn vc) 2 x.args ValV := SlAt.mono (w := wz) (w' := w) (V := ValV) (fun _ _ h => h) hzi hsl
    obtain ⟨va', vn', vc', vb, vo, e, hvn, _, _, _, hva, hvel⟩ := hsl2
    simp only [Value.slice.injEq] at e
    obtain ⟨rfl, rfl, rfl⟩ := e
    have had : AddrIs va vb vo := ⟨hva (ne_of_get hv)⟩
    have hli : LtIs i vn := ⟨hlt⟩
    obtain ⟨cs, hcs, rfl, _⟩ := hvel i v hv
    have hci : CellsIs w vb (vo + i * 2) _ := ⟨hcs⟩
    repeat (first | refine g_op rfl ?_ | refine g_then ?_ | refine g_nil ?_ | refine g_region ?_ | refine g_seq ?_ | refine g_alloc rfl fun _ _ => ?_ | refine g_storeAgg ?_ | refine g_block ?_ | refine g_skip ?_)
    refine g_yield (m := 3) (fun w v w' => (v = .bool true ∧ J (xs.take (c0 + i + 1)) w' ∧ KeepX own w w') ∨ (v = .bool false ∧ Jx (xs.take (c0 + i + 1)) w')) rfl (fun w2 hw => step (c0 + i) v (hstep i v hv) w2 (jchg hJ hw.chg hJi)) fun v w2 w' hw hR a hF => ?_
    rcases hR with ⟨rfl, hJ', hk⟩ | ⟨rfl, hJ'⟩
    · have hz' := keepW w2 (fun p v h => cell_keep hw.chg (hzi p v h)) w' hk
      refine rebase hF ?_
      repeat (first | refine g_op rfl ?_ | refine g_then ?_ | refine g_nil ?_ | refine g_region ?_ | refine g_opS rfl ?_ | refine g_inBlock ?_ | refine g_skip ?_ | refine g_condF ?_ | refine g_add rfl (by omega) (by omega) ?_)
      exact fun a w3 hS => ⟨i + 1, ⟨hlt, hS.fr.to (by repeat (first | exact trivial | refine ⟨rfl, ?_⟩)), jchg hJ hS.wd.chg hJ', fun p v h => cell_keep hS.wd.chg (hz' p v h)⟩, by omega⟩
    · refine rebase hF ?_
      repeat (first | refine g_op rfl ?_ | refine g_then ?_ | refine g_nil ?_ | refine g_condT ?_ | refine g_ret ?_ | refine g_thenRet ?_ | refine g_blockRet ?_)
      exact g_ret0 rfl fun w3 hw3 => .inr ⟨_, List.take_prefix _ _, jchg hJx hw3.chg hJ'⟩
  · have hge : i = vn := by have := h1; simp at this; omega
    repeat (first | refine g_exit ?_ | refine g_thenExit ?_ | refine g_exitHere ?_)
    refine g_end0 rfl fun w3 hw3 => .inl ⟨xs, rfl, ?_⟩
    rw [List.take_of_length_le (by omega)] at hJi
    exact jchg hJ hw3.chg hJi
end Go.Proofs.YtebajiafdkokjaaDoor

/- The live sets' small methods: take, list, Clone, Equal, Index, Place. What each does. -/
namespace Go.Proofs.YtebajiafdkokjaaDoor
open Go Go.RowKit
attribute [local irreducible] wpListIn Code.wpIn Exit.then Exit.inBlock bodyPost wpQuiet wpAnyIn
set_option maxHeartbeats 4000000

def vecB (a : Option Addr) (R c : Nat) (s : List Bool) : Ent := Ent.vec a R c 4 1 (s.map .bool)
theorem take_c (a : Option Addr) (R c : Nat) (s : List Bool) (hs : s.length = R) (v : LVal) (hv : ValOk R v) (w : World) (hw : Wd (fps [vecB a R c s]) w [vecB a R c s] w) :
    Ret Tryd.prog 75 [.slice a R c, .agg #[.bool v.reg, .int .i64 v.n]] w fun u w' => ∃ _ : Unit, u = .tuple #[] ∧ Wd (fps [vecB a R c s]) w [vecB a R c (takeV s v)] w' ∧ True := by
  refine ret_enter Tryd.func75 rfl Tryd.ntmps75 rfl hw ?_
  generalize fps [vecB a R c s] = SS
  unfold vecB
  repeat (first | refine g_op rfl ?_ | refine g_then ?_ | refine g_nil ?_ | refine g_region ?_ | refine g_seq ?_ | refine g_box rfl fun _ _ => ?_)
  unfold takeV
  unfold ValOk at hv
  generalize v.reg = b at hv
  cases b
  · repeat (first | refine g_skip ?_ | refine g_condF ?_)
    exact g_end0 rfl fun w' hw' => ⟨(), rfl, hw'.sel [1] (by decide), trivial⟩
  · obtain ⟨k, hk⟩ : ∃ k : Nat, v.n = k := ⟨v.n.toNat, by have := hv rfl; omega⟩
    have hkR : k < R := by have := hv rfl; omega
    obtain ⟨y, hy⟩ : ∃ y, s[k]? = some y := ⟨_, List.getElem?_eq_getElem (by omega)⟩
    refine g_vec 1 rfl (by omega) fun vb vo hva => ?_
    subst hva
    have hli : LtIs k R := ⟨hkR⟩
    have hea : ElAt s k y := ⟨hy⟩
    have hni : NatIs v.n k := ⟨hk⟩
    repeat (first | refine g_op rfl ?_ | refine g_nil ?_ | refine g_region ?_ | refine g_condT ?_ | refine g_storeV ?_)
    refine g_end0 rfl fun w' hw' => ⟨(), rfl, ?_, trivial⟩
    rw [if_pos rfl, show v.n.toNat = k by omega]
    exact hw'.sel [1] (by decide)
theorem idxOf_le {x : Nat} : ∀ {l : List Nat} {i : Nat}, l[i]? = some x → l.idxOf x ≤ i
  | [], i, h => by simp at h
  | y :: l, 0, h => by
    simp only [List.getElem?_cons_zero, Option.some.injEq] at h
    subst h
    simp
  | y :: l, i + 1, h => by
    rw [List.idxOf_cons]
    cases (y == x)
    · have := idxOf_le (l := l) (i := i) (by simpa using h)
      simpa using this
    · simp
theorem place_c (v : Value) (l : List Nat) (x : Nat) (w0 : World) (hx : x ∈ l) (hv : SlAt w0 v 1 (l.map fun x : Nat => (x : Int)) IntV) : RetV Tryd.prog 134 [v, .int .i64 x] w0 (.int .i64 (l.idxOf x : Nat)) := by
  obtain ⟨a, n, c, b, o, rfl, hn, hnc, hnb, hc, ha, hel⟩ := hv
  rw [List.length_map] at hn
  have hil := List.idxOf_lt_length_of_mem hx
  refine ret_enter Tryd.func134 rfl Tryd.ntmps134 rfl (Wd.nil NoS w0) ?_
  repeat (first | refine g_op rfl ?_ | refine g_then ?_ | refine g_nil ?_ | refine g_region ?_ | refine g_seq ?_ | refine g_block ?_)
  refine g_loop (fun (i : Nat) => i ≤ l.idxOf x) (fun i => [(5, .int .i64 i), (0, .slice a n c), (1, .int .i64 x)]) (fun _ => []) (fun i => n - i) 0 (Nat.zero_le _) (g_done (by repeat (first | exact trivial | refine ⟨rfl, ?_⟩)) (by simp)) fun i hi => ?_
  repeat (first | refine g_op rfl ?_ | refine g_then ?_ | refine g_nil ?_ | refine g_region ?_ | refine g_seq ?_)
  refine g_cond (fun h1 => ?_) (fun h1 => ?_)
  · have hlt : i < n := by simpa using h1
    obtain ⟨t, ht⟩ : ∃ t, l[i]? = some t := ⟨_, List.getElem?_eq_getElem (by omega)⟩
    have ht' : (l.map fun x : Nat => (x : Int))[i]? = some (t : Int) := by rw [List.getElem?_map, ht]; rfl
    have had : AddrIs a b o := ⟨ha (ne_of_get ht')⟩
    have hli : LtIs i n := ⟨hlt⟩
    obtain ⟨cs, hcs, rfl, _⟩ := hel i _ ht'
    have hci : CellsIs w0 b (o + i * 1) _ := ⟨hcs⟩
    repeat (first | refine g_op rfl ?_ | refine g_then ?_ | refine g_nil ?_ | refine g_region ?_ | refine g_seq ?_ | refine g_block ?_ | refine g_skip ?_)
    refine g_cond (fun h2 => ?_) (fun h2 => ?_)
    · have h5 : (t : Int) = x := by simpa using h2
      have htx : t = x := by omega
      subst htx
      have : l.idxOf t = i := by
        have h4 := idxOf_le ht
        omega
      repeat (first | refine g_op rfl ?_ | refine g_then ?_ | refine g_nil ?_ | refine g_region ?_ | refine g_seq ?_ | refine g_ret ?_ | refine g_thenRet ?_ | refine g_blockRet ?_)
      exact g_retV rfl (by rw [this])
    · repeat (first | refine g_op rfl ?_ | refine g_then ?_ | refine g_nil ?_ | refine g_region ?_ | refine g_opS rfl ?_ | refine g_inBlock ?_ | refine g_skip ?_ | refine g_add rfl (by omega) (by omega) ?_)
      refine g_next (i + 1) ?_ (by omega) (by repeat (first | exact trivial | refine ⟨rfl, ?_⟩)) (by simp)
      refine Nat.lt_of_le_of_ne hi fun e => ?_
      subst e
      have h3 := List.getElem_idxOf hil
      have h4 := (List.getElem?_eq_some_iff.1 ht).2
      rw [h3] at h4
      simp [h4] at h2
  · exact absurd h1 (by simp; omega)
theorem index_c (v : Value) (l : List Nat) (x : Nat) (w0 : World) (hx : x ∈ l) (hv : SlAt w0 v 1 (l.map fun x : Nat => (x : Int)) IntV) : RetV Tryd.prog 123 [v, .int .i64 x] w0 (.int .i64 (l.idxOf x : Nat)) := by
  obtain ⟨a, n, c, b, o, rfl, hn, hnc, hnb, hc, ha, hel⟩ := hv
  rw [List.length_map] at hn
  have hil := List.idxOf_lt_length_of_mem hx
  refine ret_enter Tryd.func123 rfl Tryd.ntmps123 rfl (Wd.nil NoS w0) ?_
  repeat (first | refine g_op rfl ?_ | refine g_then ?_ | refine g_nil ?_ | refine g_region ?_ | refine g_seq ?_ | refine g_block ?_)
  refine g_loop (fun (i : Nat) => i ≤ l.idxOf x) (fun i => [(8, .int .i64 i), (6, .slice a n c), (7, .int .i64 n), (0, .slice a n c), (1, .int .i64 x)]) (fun _ => []) (fun i => n - i) 0 (Nat.zero_le _) (g_done (by repeat (first | exact trivial | refine ⟨rfl, ?_⟩)) (by simp)) fun i hi => ?_
  repeat (first | refine g_op rfl ?_ | refine g_then ?_ | refine g_nil ?_ | refine g_region ?_ | refine g_seq ?_)
  refine g_cond (fun h1 => ?_) (fun h1 => ?_)
  · have hlt : i < n := by simpa using h1
    obtain ⟨t, ht⟩ : ∃ t, l[i]? = some t := ⟨_, List.getElem?_eq_getElem (by omega)⟩
    have ht' : (l.map fun x : Nat => (x : Int))[i]? = some (t : Int) := by rw [List.getElem?_map, ht]; rfl
    have had : AddrIs a b o := ⟨ha (ne_of_get ht')⟩
    have hli : LtIs i n := ⟨hlt⟩
    obtain ⟨cs, hcs, rfl, _⟩ := hel i _ ht'
    have hci : CellsIs w0 b (o + i * 1) _ := ⟨hcs⟩
    repeat (first | refine g_op rfl ?_ | refine g_then ?_ | refine g_nil ?_ | refine g_region ?_ | refine g_seq ?_ | refine g_block ?_ | refine g_skip ?_)
    refine g_cond (fun h2 => ?_) (fun h2 => ?_)
    · have h5 : (x : Int) = t := by simpa using h2
      have htx : x = t := by omega
      subst htx
      have : l.idxOf x = i := by
        have h4 := idxOf_le ht
        omega
      repeat (first | refine g_op rfl ?_ | refine g_then ?_ | refine g_nil ?_ | refine g_region ?_ | refine g_seq ?_ | refine g_ret ?_ | refine g_thenRet ?_ | refine g_blockRet ?_)
      exact g_retV rfl (by rw [this])
    · repeat (first | refine g_then ?_ | refine g_nil ?_ | refine g_region ?_ | refine g_opS rfl ?_ | refine g_inBlock ?_ | refine g_skip ?_ | refine g_add rfl (by omega) (by omega) ?_)
      refine g_next (i + 1) ?_ (by omega) (by repeat (first | exact trivial | refine ⟨rfl, ?_⟩)) (by simp)
      refine Nat.lt_of_le_of_ne hi fun e => ?_
      subst e
      have h3 := List.getElem_idxOf hil
      have h4 := (List.getElem?_eq_some_iff.1 ht).2
      rw [h3] at h4
      simp [h4] at h2
  · exact absurd h1 (by simp; omega)
theorem equalB_c (a b : Value) (l m : List Bool) (w0 : World) (ha : SlAt w0 a 1 l BoolV) (hb : SlAt w0 b 1 m BoolV) : RetV Tryd.prog 106 [a, b] w0 (.bool (decide (l = m))) := by
  obtain ⟨aa, an, ac, ab, ao, rfl, han, hanc, hanb, hac, haa, hael⟩ := ha
  obtain ⟨ba, bn, bc, bb, bo, rfl, hbn, hbnc, hbnb, hbc, hba, hbel⟩ := hb
  refine ret_enter Tryd.func106 rfl Tryd.ntmps106 rfl (Wd.nil NoS w0) ?_
  repeat (first | refine g_op rfl ?_ | refine g_then ?_ | refine g_nil ?_ | refine g_region ?_ | refine g_seq ?_)
  refine g_cond (fun h1 => ?_) (fun h1 => ?_)
  · repeat (first | refine g_then ?_ | refine g_nil ?_ | refine g_region ?_ | refine g_seq ?_ | refine g_opS rfl ?_ | refine g_ret ?_ | refine g_thenRet ?_)
    refine g_retV rfl ?_
    rw [decide_eq_false]
    rintro rfl
    simp at h1; omega
  have hlen : an = bn := by simp at h1; omega
  repeat (first | refine g_op rfl ?_ | refine g_then ?_ | refine g_nil ?_ | refine g_region ?_ | refine g_seq ?_ | refine g_block ?_ | refine g_skip ?_)
  refine g_loop (fun (i : Nat) => i ≤ an ∧ ∀ j, j < i → l[j]? = m[j]?) (fun i => [(13, .int .i64 i), (11, .slice aa an ac), (12, .int .i64 an), (0, .slice aa an ac), (1, .slice ba bn bc)]) (fun _ => []) (fun i => an - i) 0 ⟨Nat.zero_le _, by simp⟩ (g_done (by repeat (first | exact trivial | refine ⟨rfl, ?_⟩)) (by simp)) fun i ⟨hi, hall⟩ => ?_
  repeat (first | refine g_op rfl ?_ | refine g_then ?_ | refine g_nil ?_ | refine g_region ?_ | refine g_seq ?_)
  refine g_cond (fun h2 => ?_) (fun h2 => ?_)
  · have hlt : i < an := by simpa using h2
    obtain ⟨x, hx⟩ := get_lt han hlt
    obtain ⟨y, hy⟩ := get_lt hbn (show i < bn by omega)
    have had : AddrIs aa ab ao := ⟨haa (ne_of_get hx)⟩
    have hbd : AddrIs ba bb bo := ⟨hba (ne_of_get hy)⟩
    have hli : LtIs i an := ⟨hlt⟩
    have hlj : LtIs i bn := ⟨by omega⟩
    obtain ⟨cs, hcs, rfl⟩ := hael i x hx
    obtain ⟨cs2, hcs2, rfl⟩ := hbel i y hy
    have hci : CellsIs w0 ab (ao + i * 1) _ := ⟨hcs⟩
    have hcj : CellsIs w0 bb (bo + i * 1) _ := ⟨hcs2⟩
    repeat (first | refine g_op rfl ?_ | refine g_then ?_ | refine g_nil ?_ | refine g_region ?_ | refine g_seq ?_ | refine g_block ?_ | refine g_skip ?_)
    refine g_draw mixed (by kernel_rfl) ?_
    repeat (first | refine q_op rfl ?_ | refine q_nil ?_)
    repeat (refine g_then ?_)
    refine g_cond (fun h3 => ?_) (fun h3 => ?_)
    · repeat (first | refine g_op rfl ?_ | refine g_then ?_ | refine g_nil ?_ | refine g_region ?_ | refine g_seq ?_ | refine g_ret ?_ | refine g_thenRet ?_ | refine g_blockRet ?_)
      refine g_retV rfl ?_
      rw [decide_eq_false]
      rintro rfl
      rw [hx] at hy
      simp only [Option.some.injEq] at hy
      simp [hy] at h3
    · have hxy : x = y := by simpa using h3
      repeat (first | refine g_then ?_ | refine g_nil ?_ | refine g_region ?_ | refine g_opS rfl ?_ | refine g_inBlock ?_ | refine g_skip ?_ | refine g_add rfl (by omega) (by omega) ?_)
      refine g_next (i + 1) ⟨hlt, fun j hj => ?_⟩ (by omega) (by repeat (first | exact trivial | refine ⟨rfl, ?_⟩)) (by simp)
      by_cases hji : j = i
      · subst hji; rw [hx, hy, hxy]
      · exact hall j (by omega)
  · have hge : i = an := by have := h2; simp at this; omega
    repeat (first | refine g_op rfl ?_ | refine g_then ?_ | refine g_nil ?_ | refine g_region ?_ | refine g_seq ?_ | refine g_exit ?_ | refine g_thenExit ?_ | refine g_exitHere ?_ | refine g_ret ?_)
    refine g_retV rfl ?_
    rw [decide_eq_true]
    apply List.ext_getElem?
    intro j
    by_cases hj : j < an
    · exact hall j (by omega)
    · rw [List.getElem?_eq_none (by omega), List.getElem?_eq_none (by omega)]
theorem cloneB_c (a : Option Addr) (R c : Nat) (l : List Bool) (hR : R ≤ 1000) (w0 : World) (hl : SlAt w0 (.slice a R c) 1 l BoolV) :
    Ret Tryd.prog 105 [.slice a R c] w0 fun u w' => ∃ x : Option Addr × Nat, u = .slice x.1 R x.2 ∧ Wd NoS w0 [vecB x.1 R x.2 l] w' ∧ True := by
  refine ret_enter Tryd.func105 rfl Tryd.ntmps105 rfl (Wd.nil NoS w0) ?_
  repeat (first | refine g_op rfl ?_ | refine g_then ?_ | refine g_nil ?_ | refine g_region ?_ | refine g_seq ?_)
  cases a with
  | none =>
    have hl0 : l = [] ∧ R = 0 := by
      obtain ⟨a', n, c', b, o, hv, hn, _, _, _, ha, _⟩ := hl
      simp only [Value.slice.injEq] at hv
      obtain ⟨rfl, rfl, rfl⟩ := hv
      have h0 : l = [] := Classical.byContradiction fun h => by cases ha h
      exact ⟨h0, by rw [hn, h0]; rfl⟩
    obtain ⟨rfl, rfl⟩ := hl0
    repeat (first | refine g_then ?_ | refine g_nil ?_ | refine g_region ?_ | refine g_seq ?_ | refine g_opS rfl ?_ | refine g_condT ?_ | refine g_ret ?_ | refine g_thenRet ?_)
    refine g_nilVec 4 1 ?_
    exact g_ret1 rfl fun w hw => ⟨(none, 0), rfl, hw, trivial⟩
  | some ad =>
    repeat (first | refine g_then ?_ | refine g_region ?_ | refine g_seq ?_ | refine g_skip ?_ | refine g_condF ?_)
    refine g_build0 rfl fun eb _ => ?_
    repeat (refine g_op rfl ?_)
    refine g_appendF rfl rfl l (fun b => [.bool b]) (fun _ _ _ h => h) (fun _ => rfl) (fun _ u hu => by simp only [List.mem_singleton] at hu; subst hu; rfl) (fun w hw => hl.keep keeps_bool hw.chg) (by omega) (by omega) fun a' c' => ?_
    rw [flat_one, List.nil_append, Nat.zero_add]
    repeat (first | refine g_then ?_ | refine g_nil ?_ | refine g_opS rfl ?_ | refine g_ret ?_)
    exact g_ret1 rfl fun w hw => ⟨(a', c'), rfl, hw, trivial⟩
theorem list_c (a : Option Addr) (R c : Nat) (s : List Bool) (hR : R ≤ 1000) (w0 : World) (hs : SlAt w0 (.slice a R c) 1 s BoolV) :
    Ret Tryd.prog 76 [.slice a R c] w0 fun u w' => ∃ x : Option Addr × Nat × List Nat, u = .slice x.1 x.2.2.length x.2.1 ∧ Wd NoS w0 [Ent.vec x.1 x.2.2.length x.2.1 3 1 (x.2.2.map intN)] w' ∧ x.2.2 = (List.range R).filter fun r => decide (s[r]? = some true) := by
  obtain ⟨a, n, c, b, o, hv, hn, hnc, hnb, hc, ha, hel⟩ := hs
  simp only [Value.slice.injEq] at hv
  obtain ⟨rfl, rfl, rfl⟩ := hv
  refine ret_enter Tryd.func76 rfl Tryd.ntmps76 rfl (Wd.nil NoS w0) ?_
  repeat (first | refine g_op rfl ?_ | refine g_then ?_ | refine g_nil ?_ | refine g_region ?_ | refine g_seq ?_ | refine g_block ?_)
  refine g_nilVec 3 1 ?_
  refine g_loop (fun (x : Nat × Option Addr × Nat × List Nat) => x.1 ≤ R ∧ x.2.2.2 = (List.range x.1).filter fun r => decide (s[r]? = some true)) (fun x => [(8, .int .i64 x.1), (6, .slice a R c), (7, .int .i64 R), (3, .slice x.2.1 x.2.2.2.length x.2.2.1)])
    (fun x => [Ent.vec x.2.1 x.2.2.2.length x.2.2.1 3 1 (x.2.2.2.map intN)]) (fun x => R - x.1) (0, none, 0, []) ⟨Nat.zero_le _, rfl⟩ (g_done (by repeat (first | exact trivial | refine ⟨rfl, ?_⟩)) (List.Sublist.refl _)) fun x ⟨hi, hl⟩ => ?_
  obtain ⟨i, la, lc, l⟩ := x
  simp only at hi hl ⊢
  have hll : l.length ≤ i := by rw [hl]; have := List.length_filter_le (fun r => decide (s[r]? = some true)) (List.range i); rwa [List.length_range] at this
  repeat (first | refine g_op rfl ?_ | refine g_then ?_ | refine g_nil ?_ | refine g_region ?_ | refine g_seq ?_)
  refine g_cond (fun h1 => ?_) (fun h1 => ?_)
  · have hlt : i < R := by simpa using h1
    obtain ⟨x, hx⟩ := get_lt hn hlt
    have had : AddrIs a b o := ⟨ha (ne_of_get hx)⟩
    have hli : LtIs i R := ⟨hlt⟩
    obtain ⟨cs, hcs, rfl⟩ := hel i x hx
    have hci : CellsIs w0 b (o + i * 1) _ := ⟨hcs⟩
    have hnew : (List.range (i + 1)).filter (fun r => decide (s[r]? = some true)) = l ++ if x = true then [i] else [] := by
      rw [List.range_succ, List.filter_append, ← hl]
      congr 1
      cases x <;> simp [hx]
    cases x
    · repeat (first | refine g_op rfl ?_ | refine g_then ?_ | refine g_nil ?_ | refine g_region ?_ | refine g_seq ?_ | refine g_opS rfl ?_ | refine g_inBlock ?_ | refine g_block ?_ | refine g_skip ?_ | refine g_condF ?_ | refine g_add rfl (by omega) (by omega) ?_)
      exact g_next (i + 1, la, lc, l) ⟨hlt, by simpa using hnew.symm⟩ (by simp only; omega) (by repeat (first | exact trivial | refine ⟨rfl, ?_⟩)) (List.Sublist.refl _)
    · repeat (first | refine g_op rfl ?_ | refine g_then ?_ | refine g_nil ?_ | refine g_region ?_ | refine g_seq ?_ | refine g_block ?_ | refine g_skip ?_ | refine g_condT ?_ | refine g_build1 rfl rfl fun _ _ => ?_)
      refine g_append rfl rfl (by omega) (by omega) fun a' c' => ?_
      rw [show l.map intN ++ [.int .i64 (i : Int)] = (l ++ [i]).map intN by simp [intN], show l.length + 1 = (l ++ [i]).length by simp]
      repeat (first | refine g_then ?_ | refine g_nil ?_ | refine g_region ?_ | refine g_opS rfl ?_ | refine g_inBlock ?_ | refine g_add rfl (by omega) (by omega) ?_)
      exact g_next (i + 1, a', c', l ++ [i]) ⟨hlt, by simpa using hnew.symm⟩ (by simp only; omega) (by repeat (first | exact trivial | refine ⟨rfl, ?_⟩)) (List.Sublist.cons _ (List.Sublist.refl _))
  · have hge : i = R := by have := h1; simp at this; omega
    repeat (first | refine g_op rfl ?_ | refine g_then ?_ | refine g_nil ?_ | refine g_region ?_ | refine g_seq ?_ | refine g_exit ?_ | refine g_thenExit ?_ | refine g_exitHere ?_ | refine g_ret ?_)
    exact g_ret1 rfl fun w hw => ⟨(la, lc, l), rfl, hw, by rw [hl, hge]⟩
end Go.Proofs.YtebajiafdkokjaaDoor

/- The document's way to live registers: names, Uses, writesPhi, Ahead, takes, come. What each returns. -/
namespace Go.Proofs.YtebajiafdkokjaaDoor
open Go Go.RowKit

/-- cells of the call's own, side by side -/
class XsAt (xs : List Value) (j : Nat) (cs : outParam (List Value)) : Prop where
  eq : ∀ i v, cs[i]? = some v → xs[j + i]? = some v
class OwnCells (H : List Ent) (b off : Nat) (cs : outParam (List Value)) : Prop where
  eq : ∀ S w0 w, Wd S w0 H w → CellsAt w b off cs
instance (b o j n c e s : Nat) (xs cs : List Value) (H : List Ent) [h : XsAt xs j cs] : OwnCells (Ent.vec (some ⟨b, o, none⟩) n c e s xs :: H) b (o + j) cs :=
  ⟨fun _ _ _ hw i v hi => by rw [Nat.add_assoc]; exact Wd.vecCell hw (k := 0) rfl (h.eq i v hi)⟩
instance (b off : Nat) (cs : List Value) (x : Ent) (H : List Ent) [h : OwnCells H b off cs] : OwnCells (x :: H) b off cs := ⟨fun S w0 w hw => h.eq S w0 w (hw.sub (List.sublist_cons_self _ _))⟩
section
variable {P : Program} {ro : Option Nat} {N : Nat} {ds : List Deferred} {S : Nat → Prop} {w0 : World} {L : List (Nat × Value)} {H : List Ent} {ops : Array Oper} {rest : List Oper} {Q : Exit → Act → World → Prop} {x y : Operand}
instance (priority := low) {T b off n : Nat} {cs : List Value} [h : AggSize P T n] [hx : Ev L x (.pointer (some ⟨b, off, none⟩))] [hc : OwnCells H b off cs] [hn : LenIs cs n] : RunsC P N ds S w0 L H (.load T x) (.agg cs.toArray) :=
  ⟨fun _ h => (by cases h), fun _ _ h => (by cases h), fun _ _ _ _ _ a w hF hW => by simp [execOp, hx.eq _ _ _ hF, run_loadAgg hn.eq (hc.eq _ _ _ hW)]⟩
theorem fill_two (v u : Value) (cs ds zs : List Value) (hv : v.cells.toList = cs) (hu : u.cells.toList = ds) (hl : cs.length = ds.length) (hz : zs.length = 2 * cs.length) : Instr.fill (fun i => some (i * cs.length, cs.length)) zs.toArray [(0, v), (1, u)] = some (cs ++ ds).toArray := by
  have hs : v.cells.size = cs.length := by rw [← hv]; simp
  have hs2 : u.cells.size = cs.length := by rw [← Array.length_toList, hu, hl]
  have e : v.cells = cs.toArray := by rw [← hv]
  have e2 : u.cells = ds.toArray := by rw [← hu]
  have hf := fold_putL cs zs 0 0 (by omega)
  have hp : putL zs 0 cs = cs ++ zs.drop cs.length := by
    rw [← putL_eq zs 0 cs (by omega)]
    simp
  simp only [Nat.add_zero] at hf
  rw [hp] at hf
  have hf2 := fold_putL ds (cs ++ zs.drop cs.length) cs.length 0 (by simp; omega)
  have hp2 : putL (cs ++ zs.drop cs.length) (cs.length + 0) ds = cs ++ ds := by
    rw [← putL_eq (cs ++ zs.drop cs.length) (cs.length + 0) ds (by simp; omega)]
    rw [Nat.add_zero, List.take_left, List.drop_append]
    simp
    omega
  rw [hp2] at hf2
  have hA : (v.cells.zipIdx).foldl (fun (c : Array Value) (x : Value × Nat) => c.setIfInBounds (0 * cs.length + x.2) x.1) zs.toArray = (cs ++ zs.drop cs.length).toArray := by rw [e]; simpa using hf
  have hB : (u.cells.zipIdx).foldl (fun (c : Array Value) (x : Value × Nat) => c.setIfInBounds (1 * cs.length + x.2) x.1) (cs ++ zs.drop cs.length).toArray = (cs ++ ds).toArray := by rw [e2]; simpa using hf2
  simp only [Instr.fill]
  rw [if_neg (by simp [hs, hz]; omega), hA, if_neg (by simp [hs2]; omega), hB]
/-- a slice of two elements -/
theorem g_build2 {d ty T e by' : Nat} {zs cs ds' : List Value} {s : Nat} {v u : Value} {pos : String} {aft : Array Go.Edge} [h : ElemInfo P T e s by' zs] [hx : Ev L x v] [hy : Ev L y u] [hv : CellsOf v cs] [hu : CellsOf u ds'] [hl : LenIs cs s] [hl2 : LenIs ds' s] (hd : okPut d N L = true) (hs : ((Nat.blt 0 s && Nat.ble s 1000) && Nat.beq zs.length s) = true)
    (k : ∀ b, w0.heap.size ≤ b → G N ds S w0 ((d, .slice (some ⟨b, 0, none⟩) 2 2) :: L) (Ent.vec (some ⟨b, 0, none⟩) 2 2 e s (cs ++ ds') :: H) (wpListIn (FW ro) 0 P ops Q rest)) : G N ds S w0 L H (wpListIn (FW ro) 0 P ops Q (⟨some d, .buildSlice T 2 #[(0, x), (1, y)], ty, pos, aft, none⟩ :: rest)) := by
  intro a w hS
  obtain ⟨i, zz, hi, hzz, hcs, h1, h2⟩ := h.get
  simp only [Bool.and_eq_true, Nat.blt_eq, Nat.ble_eq] at hs
  have hle := hl.eq
  have hle2 := hl2.eq
  refine step_val (v := .slice (some ⟨w.heap.size, 0, none⟩) 2 2) (w' := w.alloc (.cells (cs ++ ds').toArray e)) rfl (fun _ h => by cases h) ?_ ?_
  · have hr := run_buildSlice (P := P) w T e 2 #[(0, v), (1, u)] (cs ++ ds').toArray i zz h.und hi hzz (by rw [h1]; omega) (by rw [h1]; omega) (by
      rw [h1, ← hle]
      have := fill_two v u cs ds' ((Array.range (2 * cs.length)).map (zz.cells[· % zz.cells.size]!)).toList hv.eq hu.eq (by omega) (by simp)
      rw [Array.toArray_toList] at this
      exact this)
    simp [execOp, hx.eq _ _ _ hS.fr, hy.eq _ _ _ hS.fr, hr]
  · exact k _ hS.wd.size _ _ ⟨hS.fr.putOk hd _, hS.wd.vecNew e s 2 _ (by rw [List.length_append]; omega) (by simp [maxLen])⟩
end
attribute [local irreducible] wpListIn Code.wpIn Exit.then Exit.inBlock bodyPost wpQuiet wpAnyIn
set_option maxHeartbeats 4000000

def valC (v : LVal) : List Value := [.bool v.reg, .int .i64 v.n]
theorem vals_sl {S : Nat → Prop} {w0 w : World} {H : List Ent} {k c n e : Nat} {a : Option Addr} {l : List LVal} (h : Wd S w0 H w) (hk : H[k]? = some (Ent.vec a n c e 2 (l.flatMap valC))) (hn : n = l.length) (hb : n ≤ 100000) (hl : ∀ x ∈ l, inI x.n) : SlAt w (.slice a n c) 2 l ValV :=
  h.slAt hk hn (by omega) fun i x hx => ⟨valC x, fun j v hj => flat_at (g := valC) (s := 2) (fun _ => rfl) l i x j v hx hj, rfl, hl x (List.mem_of_getElem? hx)⟩
theorem names_c (v : Value) (l : List LVal) (r : Nat) (w0 : World) (hv : SlAt w0 v 2 l ValV) : RetV Tryd.prog 109 [v, .int .i64 r] w0 (.bool (namesR l r)) := by
  obtain ⟨a, n, c, b, o, rfl, hn, hnc, hnb, hc, ha, hel⟩ := hv
  refine ret_enter Tryd.func109 rfl Tryd.ntmps109 rfl (Wd.nil NoS w0) ?_
  repeat (first | refine g_op rfl ?_ | refine g_then ?_ | refine g_nil ?_ | refine g_region ?_ | refine g_seq ?_ | refine g_block ?_)
  refine g_loop (fun (i : Nat) => i ≤ n ∧ namesR (l.take i) r = false) (fun i => [(5, .int .i64 i), (0, .slice a n c), (1, .int .i64 r)]) (fun _ => []) (fun i => n - i) 0 ⟨Nat.zero_le _, by simp [namesR]⟩ (g_done (by repeat (first | exact trivial | refine ⟨rfl, ?_⟩)) (by simp)) fun i ⟨hi, hall⟩ => ?_
  repeat (first | refine g_op rfl ?_ | refine g_then ?_ | refine g_nil ?_ | refine g_region ?_ | refine g_seq ?_)
  refine g_cond (fun h1 => ?_) (fun h1 => ?_)
  · have hlt : i < n := by simpa using h1
    obtain ⟨x, hx⟩ := get_lt hn hlt
    have had : AddrIs a b o := ⟨ha (ne_of_get hx)⟩
    have hli : LtIs i n := ⟨hlt⟩
    obtain ⟨cs, hcs, rfl, _⟩ := hel i x hx
    have hci : CellsIs w0 b (o + i * 2) _ := ⟨hcs⟩
    have hnext : namesR (l.take (i + 1)) r = (x.reg && decide (x.n = r)) := by
      rw [List.take_add_one, hx]
      simp only [namesR, List.any_append, Option.toList_some, List.any_cons, List.any_nil, Bool.or_false] at hall ⊢
      rw [hall, Bool.false_or]
    have hall2 : (x.reg && decide (x.n = r)) = true → namesR l r = true := fun h => by
      simp only [namesR, List.any_eq_true]
      exact ⟨x, List.mem_of_getElem? hx, h⟩
    repeat (first | refine g_op rfl ?_ | refine g_then ?_ | refine g_region ?_ | refine g_seq ?_ | refine g_block ?_ | refine g_skip ?_)
    refine g_joinTo 25 (.bool (x.reg && decide (x.n = r))) ?_ ?_
    · generalize x.reg = g
      cases g
      · repeat (first | refine g_op rfl ?_ | refine g_then ?_ | refine g_nil ?_ | refine g_pass rfl ?_)
        exact g_done (by repeat (first | exact trivial | refine ⟨rfl, ?_⟩)) (by simp)
      · repeat (first | refine g_op rfl ?_ | refine g_then ?_ | refine g_nil ?_ | refine g_open ?_)
        exact g_done (by repeat (first | exact trivial | refine ⟨rfl, ?_⟩)) (by simp)
    generalize (x.reg && decide (x.n = r)) = g at hnext hall2
    cases g
    · repeat (first | refine g_op rfl ?_ | refine g_then ?_ | refine g_nil ?_ | refine g_region ?_ | refine g_opS rfl ?_ | refine g_inBlock ?_ | refine g_skip ?_ | refine g_condF ?_ | refine g_add rfl (by omega) (by omega) ?_)
      exact g_next (i + 1) ⟨hlt, hnext⟩ (by omega) (by repeat (first | exact trivial | refine ⟨rfl, ?_⟩)) (by simp)
    · repeat (first | refine g_op rfl ?_ | refine g_then ?_ | refine g_nil ?_ | refine g_region ?_ | refine g_seq ?_ | refine g_condT ?_ | refine g_ret ?_ | refine g_thenRet ?_ | refine g_blockRet ?_)
      exact g_retV rfl (by rw [hall2 rfl])
  · have hge : i = n := by have := h1; simp at this; omega
    repeat (first | refine g_op rfl ?_ | refine g_then ?_ | refine g_nil ?_ | refine g_region ?_ | refine g_seq ?_ | refine g_exit ?_ | refine g_thenExit ?_ | refine g_exitHere ?_ | refine g_ret ?_)
    refine g_retV rfl ?_
    rw [hge, hn, List.take_length] at hall
    rw [hall]
theorem writesPhi_c (pv lv tv : Value) (B : LBlock) (hpl : ∃ a n c, pv = .slice a n c) (hll : ∃ a n c, lv = .slice a n c) (htl : ∃ a n c, tv = .slice a n c) (r : Nat) (w0 : World) (hp : SlAt w0 pv 2 B.phis PhiV) :
    RetV Tryd.prog 107 [.agg #[pv, lv, .int .i64 B.kind, .bool B.on.reg, .int .i64 B.on.n, tv], .int .i64 r] w0 (.bool (B.phis.any fun p => decide (p.dst = r))) := by
  obtain ⟨_, _, _, rfl⟩ := hll
  obtain ⟨_, _, _, rfl⟩ := htl
  obtain ⟨a, n, c, b, o, rfl, hn, hnc, hnb, hc, ha, hel⟩ := hp
  refine ret_enter Tryd.func107 rfl Tryd.ntmps107 rfl (Wd.nil NoS w0) ?_
  repeat (first | refine g_op rfl ?_ | refine g_then ?_ | refine g_nil ?_ | refine g_region ?_ | refine g_seq ?_ | refine g_box rfl fun _ _ => ?_ | refine g_block ?_)
  rename_i p2 _
  refine g_loop (fun (i : Nat) => i ≤ n ∧ (B.phis.take i).any (fun p => decide (p.dst = r)) = false) (fun i => [(5, .int .i64 i), (2, .pointer (some ⟨p2, 0, none⟩)), (1, .int .i64 r)]) (fun _ => [Ent.box p2 [.slice a n c, .slice _ _ _, .int .i64 B.kind, .bool B.on.reg, .int .i64 B.on.n, .slice _ _ _] 65]) (fun i => n - i) 0 ⟨Nat.zero_le _, by simp⟩ (g_done (by repeat (first | exact trivial | refine ⟨rfl, ?_⟩)) (List.Sublist.refl _)) fun i ⟨hi, hall⟩ => ?_
  repeat (first | refine g_op rfl ?_ | refine g_then ?_ | refine g_nil ?_ | refine g_region ?_ | refine g_seq ?_)
  refine g_cond (fun h1 => ?_) (fun h1 => ?_)
  · have hlt : i < n := by simpa using h1
    obtain ⟨x, hx⟩ := get_lt hn hlt
    have had : AddrIs a b o := ⟨ha (ne_of_get hx)⟩
    have hli : LtIs i n := ⟨hlt⟩
    obtain ⟨cs, hcs, sv, rfl, _⟩ := hel i x hx
    have hci : CellsIs w0 b (o + i * 2) _ := ⟨hcs⟩
    repeat (first | refine g_op rfl ?_ | refine g_then ?_ | refine g_nil ?_ | refine g_region ?_ | refine g_seq ?_ | refine g_block ?_ | refine g_skip ?_)
    refine g_cond (fun h2 => ?_) (fun h2 => ?_)
    · repeat (first | refine g_op rfl ?_ | refine g_then ?_ | refine g_nil ?_ | refine g_region ?_ | refine g_seq ?_ | refine g_ret ?_ | refine g_thenRet ?_ | refine g_blockRet ?_)
      refine g_retV rfl ?_
      have : (B.phis.any fun p => decide (p.dst = r)) = true := by
        rw [List.any_eq_true]
        exact ⟨x, List.mem_of_getElem? hx, h2⟩
      rw [this]
    · repeat (first | refine g_op rfl ?_ | refine g_then ?_ | refine g_nil ?_ | refine g_region ?_ | refine g_opS rfl ?_ | refine g_inBlock ?_ | refine g_skip ?_ | refine g_add rfl (by omega) (by omega) ?_)
      refine g_next (i + 1) ⟨hlt, ?_⟩ (by omega) (by repeat (first | exact trivial | refine ⟨rfl, ?_⟩)) (List.Sublist.refl _)
      rw [List.take_add_one, hx, List.any_append, hall]
      simpa using h2
  · have hge : i = n := by have := h1; simp at this; omega
    repeat (first | refine g_op rfl ?_ | refine g_then ?_ | refine g_nil ?_ | refine g_region ?_ | refine g_seq ?_ | refine g_exit ?_ | refine g_thenExit ?_ | refine g_exitHere ?_ | refine g_ret ?_)
    refine g_retV rfl ?_
    rw [hge, hn, List.take_length] at hall
    rw [hall]
theorem refAhead_c (nm pa re : Value) (bl : List LBlock) (bs : Value) (t : Nat) (w0 : World) (hbs : SlAt w0 bs 6 bl BlockV) (hlen : bl.length ≤ 100) :
    Ret Tryd.prog 65 [.agg #[nm, pa, re, bs], .int .i64 t] w0 fun u w' => ∃ x : Option Addr × Nat, u = .slice x.1 (preds bl t).length x.2 ∧ Wd NoS w0 [Ent.vec x.1 (preds bl t).length x.2 3 1 ((preds bl t).map intN)] w' ∧ True := by
  obtain ⟨ba, n, bc, bb, bo', rfl, hn, hnc, hnb, hbc, hba, hel⟩ := hbs
  refine ret_enter Tryd.func65 rfl Tryd.ntmps65 rfl (Wd.nil NoS w0) ?_
  repeat (first | refine g_op rfl ?_ | refine g_then ?_ | refine g_nil ?_ | refine g_region ?_ | refine g_seq ?_ | refine g_box rfl fun _ _ => ?_ | refine g_block ?_)
  rename_i p2 _
  refine g_nilVec 3 1 ?_
  refine g_loop (fun (x : Nat × Option Addr × Nat × List Nat) => x.1 ≤ n ∧ x.2.2.2 = (List.range x.1).filter fun i => decide ((t : Int) ∈ toOf bl i)) (fun x => [(6, .int .i64 x.1), (5, .slice x.2.1 x.2.2.2.length x.2.2.1), (2, .pointer (some ⟨p2, 0, none⟩)), (1, .int .i64 t)])
    (fun x => [Ent.vec x.2.1 x.2.2.2.length x.2.2.1 3 1 (x.2.2.2.map intN), Ent.box p2 [nm, pa, re, .slice ba n bc] 35]) (fun x => n - x.1) (0, none, 0, []) ⟨Nat.zero_le _, rfl⟩ (g_done (by repeat (first | exact trivial | refine ⟨rfl, ?_⟩)) (List.Sublist.refl _)) fun x ⟨hi, hl⟩ => ?_
  obtain ⟨i, la, lc, l⟩ := x
  simp only at hi hl ⊢
  have hll : l.length ≤ i := by rw [hl]; have := List.length_filter_le (fun i => decide ((t : Int) ∈ toOf bl i)) (List.range i); rwa [List.length_range] at this
  repeat (first | refine g_op rfl ?_ | refine g_then ?_ | refine g_nil ?_ | refine g_region ?_ | refine g_seq ?_)
  refine g_cond (fun h1 => ?_) (fun h1 => ?_)
  · have hlt : i < n := by simpa using h1
    obtain ⟨B, hB⟩ := get_lt hn hlt
    have had : AddrIs ba bb bo' := ⟨hba (ne_of_get hB)⟩
    have hli : LtIs i n := ⟨hlt⟩
    obtain ⟨cs, hcs, pv, lv, tv, rfl, _, _, _, _, ht⟩ := hel i B hB
    have ht0 := ht
    obtain ⟨ta, tn, tc, _, _, rfl, _⟩ := ht
    have hci : CellsIs w0 bb (bo' + i * 6) _ := ⟨hcs⟩
    have hnew : (List.range (i + 1)).filter (fun i => decide ((t : Int) ∈ toOf bl i)) = l ++ if (t : Int) ∈ B.to then [i] else [] := by
      rw [List.range_succ, List.filter_append, ← hl]
      congr 1
      by_cases h : (t : Int) ∈ B.to <;> simp [toOf_get hB, h]
    repeat (first | refine g_op rfl ?_ | refine g_then ?_ | refine g_region ?_ | refine g_seq ?_ | refine g_block ?_ | refine g_skip ?_)
    refine g_callV rfl (fun w hw => has_c _ B.to t w (ht0.keep keeps_int hw.chg)) ?_
    by_cases h : (t : Int) ∈ B.to
    · rw [decide_eq_true h]
      rw [if_pos h] at hnew
      repeat (first | refine g_op rfl ?_ | refine g_then ?_ | refine g_nil ?_ | refine g_region ?_ | refine g_condT ?_ | refine g_build1 rfl rfl fun _ _ => ?_)
      refine g_append rfl rfl (by omega) (by omega) fun a' c' => ?_
      rw [show l.map intN ++ [.int .i64 (i : Int)] = (l ++ [i]).map intN by simp [intN], show l.length + 1 = (l ++ [i]).length by simp]
      repeat (first | refine g_op rfl ?_ | refine g_then ?_ | refine g_nil ?_ | refine g_region ?_ | refine g_opS rfl ?_ | refine g_inBlock ?_ | refine g_add rfl (by omega) (by omega) ?_)
      exact g_next (i + 1, a', c', l ++ [i]) ⟨hlt, hnew.symm⟩ (by simp only; omega) (by repeat (first | exact trivial | refine ⟨rfl, ?_⟩)) (List.Sublist.cons _ (List.Sublist.refl _))
    · rw [decide_eq_false h]
      rw [if_neg h, List.append_nil] at hnew
      repeat (first | refine g_op rfl ?_ | refine g_then ?_ | refine g_nil ?_ | refine g_region ?_ | refine g_opS rfl ?_ | refine g_inBlock ?_ | refine g_skip ?_ | refine g_condF ?_ | refine g_add rfl (by omega) (by omega) ?_)
      exact g_next (i + 1, la, lc, l) ⟨hlt, hnew.symm⟩ (by simp only; omega) (by repeat (first | exact trivial | refine ⟨rfl, ?_⟩)) (List.Sublist.refl _)
  · have hge : i = n := by have := h1; simp at this; omega
    repeat (first | refine g_op rfl ?_ | refine g_then ?_ | refine g_nil ?_ | refine g_region ?_ | refine g_seq ?_ | refine g_exit ?_ | refine g_thenExit ?_ | refine g_exitHere ?_ | refine g_ret ?_)
    have hp : l = preds bl t := by rw [hl, hge, hn]; rfl
    exact g_ret1 rfl fun w hw => ⟨(la, lc), by rw [hp], by rw [← hp]; exact hw.sel [0] (by decide), trivial⟩
theorem uses_c (x : LIns) (va : Option Addr) (vn vc : Nat) (w0 : World) (hv : SlAt w0 (.slice va vn vc) 2 x.args ValV) (hlen : x.args.length ≤ 1000) :
    Ret Tryd.prog 110 [.agg #[.int .i64 x.op, .int .i64 x.dst, .bool x.a.reg, .int .i64 x.a.n, .bool x.b.reg, .int .i64 x.b.n, .int .i64 x.fn, .slice va vn vc]] w0 fun u w' => ∃ y : Option Addr × Nat × Nat, u = .slice y.1 (usesOf x).length y.2.1 ∧ Wd NoS w0 [Ent.vec y.1 (usesOf x).length y.2.1 y.2.2 2 ((usesOf x).flatMap valC)] w' ∧ True := by
  have hvn : vn = x.args.length := by
    obtain ⟨_, _, _, _, _, e, h, _⟩ := hv
    simp only [Value.slice.injEq] at e
    rw [e.2.1]; exact h
  refine ret_enter Tryd.func110 rfl Tryd.ntmps110 rfl (Wd.nil NoS w0) ?_
  repeat (first | refine g_op rfl ?_ | refine g_then ?_ | refine g_nil ?_ | refine g_region ?_ | refine g_seq ?_ | refine g_box rfl fun _ _ => ?_ | refine g_block ?_)
  unfold usesOf
  refine g_cond (fun h1 => ?_) (fun h1 => ?_)
  · have e1 : x.op = 21 := by simpa using h1
    rw [if_pos e1]
    repeat (first | refine g_op rfl ?_ | refine g_then ?_ | refine g_nil ?_ | refine g_region ?_ | refine g_seq ?_ | refine g_opS rfl ?_ | refine g_inBlock ?_ | refine g_skip ?_ | refine g_ret ?_)
    refine g_nilVec 0 2 ?_
    exact g_ret1 rfl fun w hw => ⟨(none, 0, 0), rfl, hw.sel [0] (by decide), trivial⟩
  have e1 : ¬ x.op = 21 := by simpa using h1
  rw [if_neg e1]
  repeat (first | refine g_op rfl ?_ | refine g_then ?_ | refine g_nil ?_ | refine g_region ?_ | refine g_seq ?_)
  refine g_cond (fun h2 => ?_) (fun h2 => ?_)
  · have e2 : x.op = 20 := by simpa using h2
    rw [if_pos e2]
    repeat (first | refine g_op rfl ?_ | refine g_region ?_)
    refine g_nilVec 61 2 ?_
    refine g_appendF rfl rfl x.args valC (fun _ _ _ h => h.1) (fun _ => rfl) (fun _ u hu => by simp only [valC, List.mem_cons, List.not_mem_nil, or_false] at hu; rcases hu with rfl | rfl <;> rfl) (fun w hw => hv.keep keeps_val hw.chg) (by omega) (by omega) fun a' c' => ?_
    rw [List.nil_append, Nat.zero_add, hvn]
    repeat (first | refine g_op rfl ?_ | refine g_then ?_ | refine g_nil ?_ | refine g_region ?_ | refine g_seq ?_ | refine g_opS rfl ?_ | refine g_inBlock ?_ | refine g_ret ?_)
    exact g_ret1 rfl fun w hw => ⟨(a', c', _), rfl, hw.sel [0] (by decide), trivial⟩
  have e2 : ¬ x.op = 20 := by simpa using h2
  rw [if_neg e2]
  repeat (first | refine g_op rfl ?_ | refine g_region ?_ | refine g_seq ?_)
  refine g_joinTo 29 (.bool ((decide (2 ≤ x.op) && decide (x.op ≤ 15)) || decide (x.op = 19))) ?_ ?_
  · generalize decide (2 ≤ x.op) = q1
    cases q1
    · repeat (first | refine g_op rfl ?_ | refine g_then ?_ | refine g_nil ?_ | refine g_open ?_ | refine g_pass rfl ?_)
      exact g_done (by repeat (first | exact trivial | refine ⟨rfl, ?_⟩)) (List.Sublist.refl _)
    · repeat (first | refine g_op rfl ?_ | refine g_open ?_)
      generalize decide (x.op ≤ 15) = q2
      cases q2
      · repeat (first | refine g_op rfl ?_ | refine g_then ?_ | refine g_nil ?_ | refine g_open ?_)
        exact g_done (by repeat (first | exact trivial | refine ⟨rfl, ?_⟩)) (List.Sublist.refl _)
      · repeat (first | refine g_op rfl ?_ | refine g_then ?_ | refine g_nil ?_ | refine g_pass rfl ?_)
        exact g_done (by repeat (first | exact trivial | refine ⟨rfl, ?_⟩)) (List.Sublist.refl _)
  generalize hq : ((decide (2 ≤ x.op) && decide (x.op ≤ 15)) || decide (x.op = 19)) = q
  cases q
  · have e3 : ¬ ((2 ≤ x.op ∧ x.op ≤ 15) ∨ x.op = 19) := fun h => by
      have : ((decide (2 ≤ x.op) && decide (x.op ≤ 15)) || decide (x.op = 19)) = true := by simpa using h
      rw [hq] at this; cases this
    rw [if_neg e3]
    repeat (first | refine g_op rfl ?_ | refine g_then ?_ | refine g_nil ?_ | refine g_region ?_ | refine g_seq ?_ | refine g_condF ?_)
    refine g_joinTo 45 (.bool (decide (1 ≤ x.op) && decide (x.op ≤ 22))) ?_ ?_
    · generalize decide (1 ≤ x.op) = q1
      cases q1
      · repeat (first | refine g_op rfl ?_ | refine g_then ?_ | refine g_nil ?_ | refine g_pass rfl ?_)
        exact g_done (by repeat (first | exact trivial | refine ⟨rfl, ?_⟩)) (List.Sublist.refl _)
      · repeat (first | refine g_op rfl ?_ | refine g_then ?_ | refine g_nil ?_ | refine g_open ?_)
        exact g_done (by repeat (first | exact trivial | refine ⟨rfl, ?_⟩)) (List.Sublist.refl _)
    generalize hq2 : (decide (1 ≤ x.op) && decide (x.op ≤ 22)) = q
    cases q
    · rw [if_neg (fun h => by
        have : (decide (1 ≤ x.op) && decide (x.op ≤ 22)) = true := by simpa using h
        rw [hq2] at this; cases this)]
      repeat (first | refine g_op rfl ?_ | refine g_then ?_ | refine g_nil ?_ | refine g_region ?_ | refine g_seq ?_ | refine g_opS rfl ?_ | refine g_inBlock ?_ | refine g_skip ?_ | refine g_condF ?_ | refine g_ret ?_)
      refine g_nilVec 0 2 ?_
      exact g_ret1 rfl fun w hw => ⟨(none, 0, 0), rfl, hw.sel [0] (by decide), trivial⟩
    · rw [if_pos (by simpa using hq2)]
      repeat (first | refine g_op rfl ?_ | refine g_then ?_ | refine g_nil ?_ | refine g_region ?_ | refine g_condT ?_ | refine g_build1 rfl rfl fun _ _ => ?_)
      refine g_nilVec 61 2 ?_
      refine g_append rfl rfl (by omega) (by omega) fun a' c' => ?_
      repeat (first | refine g_op rfl ?_ | refine g_then ?_ | refine g_nil ?_ | refine g_region ?_ | refine g_seq ?_ | refine g_opS rfl ?_ | refine g_inBlock ?_ | refine g_ret ?_)
      exact g_ret1 rfl fun w hw => ⟨(a', c', _), rfl, hw.sel [0] (by decide), trivial⟩
  · rw [if_pos (by simpa using hq)]
    repeat (first | refine g_op rfl ?_ | refine g_then ?_ | refine g_nil ?_ | refine g_region ?_ | refine g_condT ?_)
    refine g_build2 rfl rfl fun bt _ => ?_
    simp only [List.cons_append, List.nil_append]
    refine g_nilVec 61 2 ?_
    refine g_append rfl rfl (by omega) (by omega) fun a' c' => ?_
    repeat (first | refine g_op rfl ?_ | refine g_then ?_ | refine g_nil ?_ | refine g_region ?_ | refine g_seq ?_ | refine g_opS rfl ?_ | refine g_inBlock ?_ | refine g_ret ?_)
    exact g_ret1 rfl fun w hw => ⟨(a', c', _), rfl, hw.sel [0] (by decide), trivial⟩
end Go.Proofs.YtebajiafdkokjaaDoor

/- (Set).Ahead, slices.Backward over instructions. -/
namespace Go.Proofs.YtebajiafdkokjaaDoor
open Go Go.RowKit
attribute [local irreducible] wpListIn Code.wpIn Exit.then Exit.inBlock bodyPost wpQuiet wpAnyIn bodyPostM
set_option maxHeartbeats 4000000

theorem backwardI_c (v : Value) (hv : ∃ a n c, v = .slice a n c) (w0 : World) : Ret Tryd.prog 77 [v] w0 fun u w' => ∃ p : Nat × Nat, u = .func (.func 114) #[] #[.pointer (some ⟨p.1, 0, none⟩)] ∧ Wd NoS w0 [Ent.box p.1 [v] p.2] w' ∧ True := by
  obtain ⟨a, n, c, rfl⟩ := hv
  refine ret_enter Tryd.func77 rfl Tryd.ntmps77 rfl (Wd.nil NoS w0) ?_
  repeat (first | refine g_op rfl ?_ | refine g_then ?_ | refine g_nil ?_ | refine g_region ?_ | refine g_seq ?_ | refine g_opS rfl ?_ | refine g_box rfl fun _ _ => ?_ | refine g_ret ?_)
  exact g_ret1 rfl fun w hw => ⟨(_, _), rfl, hw, trivial⟩
/-- registers that there are -/
abbrev ValA (R : Nat) : Type := { v : LVal // ValOk R v }
theorem valA_ex {R : Nat} : ∀ l : List LVal, (∀ v ∈ l, ValOk R v) → ∃ xs : List (ValA R), xs.map (·.1) = l
  | [], _ => ⟨[], rfl⟩
  | v :: l, h => by
    obtain ⟨xs, hxs⟩ := valA_ex l fun u hu => h u (List.mem_cons_of_mem _ hu)
    exact ⟨⟨v, h v (by simp)⟩ :: xs, by rw [List.map_cons, hxs]⟩
theorem takeA_fold {R : Nat} (xs : List (ValA R)) (s : List Bool) : xs.foldl (fun s y => takeV s y.1) s = (xs.map (·.1)).foldl takeV s := by rw [List.foldl_map]
theorem setAhead_c (a : Option Addr) (R c : Nat) (s : List Bool) (hs : s.length = R) (x : LIns) (hx : InsOk R x) (hlen : x.args.length ≤ 100000) (va : Option Addr) (vn vc : Nat) (wz : World) (hsl : SlAt wz (.slice va vn vc) 2 x.args ValV) (w : World) (hw : Wd NoS wz [vecB a R c s] w) :
    Ret Tryd.prog 78 [.slice a R c, .agg #[.int .i64 x.op, .int .i64 x.dst, .bool x.a.reg, .int .i64 x.a.n, .bool x.b.reg, .int .i64 x.b.n, .int .i64 x.fn, .slice va vn vc]] w fun u w' => ∃ _ : Unit, u = .tuple #[] ∧ Wd (fps [vecB a R c s]) w [vecB a R c (insV s x)] w' ∧ True := by
  have hz := hw.chg
  refine ret_enterM (w0 := wz) (S := NoS) Tryd.func78 rfl Tryd.ntmps78 rfl hw.withRest ?_
  generalize hrest : Ent.rest (restOf wz.heap.size w [vecB a R c s]) w = RS
  repeat (first | refine g_op rfl ?_ | refine g_then ?_ | refine g_nil ?_ | refine g_region ?_ | refine g_seq ?_ | refine g_box rfl fun _ _ => ?_)
  rename_i b2 _ b3 _
  generalize hs1 : (if 0 ≤ x.dst then s.set x.dst.toNat false else s) = s1
  have hs1l : s1.length = R := by subst hs1; split <;> simpa using hs
  refine g_mid [(2, .pointer (some ⟨b2, 0, none⟩)), (3, .pointer (some ⟨b3, 0, none⟩))] [Ent.box b3 [.int .i64 x.op, .int .i64 x.dst, .bool x.a.reg, .int .i64 x.a.n, .bool x.b.reg, .int .i64 x.b.n, .int .i64 x.fn, .slice va vn vc] 114, Ent.box b2 [.slice a R c] 107, RS, vecB a R c s1] ?_ ?_
  · refine g_cond (fun h1 => ?_) (fun h1 => ?_)
    · have h0 : 0 ≤ x.dst := by simpa using h1
      have hR := hx.dst h0
      obtain ⟨k, hk⟩ : ∃ k : Nat, x.dst = k := ⟨x.dst.toNat, by omega⟩
      obtain ⟨y, hy⟩ : ∃ y, s[k]? = some y := ⟨_, List.getElem?_eq_getElem (by omega)⟩
      unfold vecB
      refine g_vec 3 rfl (by omega) fun vb vo hva => ?_
      have hli : LtIs k R := ⟨by omega⟩
      have hea : ElAt s k y := ⟨hy⟩
      have hni : NatIs x.dst k := ⟨hk⟩
      rw [hva]
      repeat (first | refine g_op rfl ?_ | refine g_then ?_ | refine g_nil ?_ | refine g_region ?_ | refine g_storeV ?_)
      rw [if_pos h0, show x.dst.toNat = k by omega] at hs1
      rw [hs1]
      exact g_done (by repeat (first | exact trivial | refine ⟨rfl, ?_⟩)) (List.Sublist.refl _)
    · have h0 : ¬ 0 ≤ x.dst := by simpa using h1
      repeat (first | refine g_then ?_ | refine g_skip ?_)
      rw [if_neg h0] at hs1
      rw [hs1]
      exact g_done (by repeat (first | exact trivial | refine ⟨rfl, ?_⟩)) (List.Sublist.refl _)
  repeat (first | refine g_op rfl ?_ | refine g_region ?_ | refine g_seq ?_)
  refine g_callE (val := fun p : Nat => .func (.func 136) #[] #[.pointer (some ⟨p, 0, none⟩)]) (E := fun p => [Ent.box p [.int .i64 x.op, .int .i64 x.dst, .bool x.a.reg, .int .i64 x.a.n, .bool x.b.reg, .int .i64 x.b.n, .int .i64 x.fn, .slice va vn vc] 114]) (φ := fun _ => True) rfl (fun w hw => vals_c x _ ⟨_, _, _, rfl⟩ w) fun bp _ => ?_
  simp only [List.cons_append, List.nil_append]
  repeat (first | refine g_then ?_ | refine g_nil ?_ | refine g_block ?_)
  obtain ⟨xs, hxs⟩ := valA_ex (R := R) (valsOf x) hx.vals
  have hfin : xs.foldl (fun s y => takeV s y.1) s1 = insV s x := by rw [takeA_fold, hxs, ← hs1]; rfl
  refine g_fix (L' := [(13, .func (.func 136) #[] #[.pointer (some ⟨bp, 0, none⟩)]), (2, .pointer (some ⟨b2, 0, none⟩)), (3, .pointer (some ⟨b3, 0, none⟩))]) (by repeat (first | exact trivial | refine ⟨rfl, ?_⟩)) (List.Sublist.refl _) ?_
  refine g_sel [4, 0, 1, 2, 3] (by decide) ?_
  refine g_rangeB (α := ValA R) (gf := 136) (lb := [.pointer (some ⟨bp, 0, none⟩)]) [Ent.box bp [.int .i64 x.op, .int .i64 x.dst, .bool x.a.reg, .int .i64 x.a.n, .bool x.b.reg, .int .i64 x.b.n, .int .i64 x.fn, .slice va vn vc] 114, Ent.box b3 [.int .i64 x.op, .int .i64 x.dst, .bool x.a.reg, .int .i64 x.a.n, .bool x.b.reg, .int .i64 x.b.n, .int .i64 x.fn, .slice va vn vc] 114, Ent.box b2 [.slice a R c] 107, RS] (fun s : List Bool => [vecB a R c s]) s1 (fun s => ⟨by intro e he; simp only [List.mem_singleton] at he; subst he; unfold vecB; infer_instance⟩) (fun s s' b ⟨e, he, hb⟩ => ⟨vecB a R c s', by simp, by simp only [List.mem_singleton] at he; subst he; exact hb⟩) xs
    (encs := fun y => #[.agg #[.bool y.1.reg, .int .i64 y.1.n]]) (Bs := bp) (bcs := [.int .i64 x.op, .int .i64 x.dst, .bool x.a.reg, .int .i64 x.a.n, .bool x.b.reg, .int .i64 x.b.n, .int .i64 x.fn, .slice va vn vc]) (bt := 114) (by simp)
    (fun w1 hw1 => ?_) (fun pre s => s = pre.foldl (fun s y => takeV s y.1) s1) rfl (List.Sublist.refl _) (fun _ => rfl) (fun y => [.bool y.1.reg, .int .i64 y.1.n]) 61
    (fun y => [(14, .agg #[.bool y.1.reg, .int .i64 y.1.n]), (2, .pointer (some ⟨b2, 0, none⟩)), (3, .pointer (some ⟨b3, 0, none⟩))]) (fun y q => [(4, .pointer (some ⟨q, 0, none⟩)), (2, .pointer (some ⟨b2, 0, none⟩)), (3, .pointer (some ⟨b3, 0, none⟩))]) (fun y a h => ?_) (fun l y s R => ?_) (fun l pre y s q RR hI hlt => ?_) fun D s2 hD hI => ?_
  · intro l J Jx W hW hJ hJx hY h0
    have hownz : ∀ b, fps ([vecB a R c s1] ++ [Ent.box bp [.int .i64 x.op, .int .i64 x.dst, .bool x.a.reg, .int .i64 x.a.n, .bool x.b.reg, .int .i64 x.b.n, .int .i64 x.fn, .slice va vn vc] 114, Ent.box b3 [.int .i64 x.op, .int .i64 x.dst, .bool x.a.reg, .int .i64 x.a.n, .bool x.b.reg, .int .i64 x.b.n, .int .i64 x.fn, .slice va vn vc] 114, Ent.box b2 [.slice a R c] 107, RS]) b → wz.heap.size ≤ b ∧ b < w1.heap.size := fun b ⟨e, he, hb⟩ => by
      have := hw1.own e he b hb
      exact ⟨this.1.elim (fun h => h.elim) id, this.2⟩
    have h2 := vals1_c (α := ValA R) (fun y => y.1) x va vn vc xs hxs hlen l bp _ wz hsl (fun b hb h => by have := (hownz b h.1).1; omega) (fun h => h.2 rfl) W (fun b hb h => by have := (hownz b h.1).2; have := hW.size; omega) J Jx _ hJ hJx hY (fun p v hp => by
      have h3 := cell_keep hw1.chg hp
      exact (hW.cell (World.block_lt_of_cell? w1 _ h3)).trans h3) (fun j v hj => by
      have h3 : w1.cell? ⟨bp, 0 + j, none⟩ = some v := hw1.boxCells bp j v hj
      exact (hW.cell (World.block_lt_of_cell? w1 _ h3)).trans h3) h0
    exact callsIn_deep (CallsIn.mono h2 fun e w' ⟨v, he, hh⟩ => ⟨⟨v, he⟩, hh⟩)
  · have h2 := (h.to (L' := [(2, .pointer (some ⟨b2, 0, none⟩)), (3, .pointer (some ⟨b3, 0, none⟩))]) (by repeat (first | exact trivial | refine ⟨rfl, ?_⟩))).putOk (d := 14) rfl (.agg #[.bool y.1.reg, .int .i64 y.1.n])
    have e : (#[14].zip #[Value.agg #[.bool y.1.reg, .int .i64 y.1.n]]).foldl (fun (t : Array Value) (q : Tmp × Value) => t.setIfInBounds q.1 q.2) a.tmps = a.tmps.setIfInBounds 14 (.agg #[.bool y.1.reg, .int .i64 y.1.n]) := by simp
    refine ⟨Eq.trans (congrArg Array.size e) h2.size, rfl, fun p hp => ?_⟩
    exact Eq.trans (congrArg (fun t : Array Value => t[p.1]?) e) (h2.slot p hp)
  · repeat (first | refine g_then ?_ | refine g_nil ?_ | refine g_region ?_ | refine g_alloc rfl fun _ _ => ?_ | refine g_storeAgg ?_)
    exact g_doneP _ (by repeat (first | exact trivial | refine ⟨rfl, ?_⟩)) (List.Sublist.refl _)
  · have hsl2 : s.length = R := by
      rw [hI, takeA_fold, takes_length, hs1l]
    simp only [List.cons_append, List.nil_append]
    repeat (first | refine g_op rfl ?_ | refine g_region ?_ | refine g_block ?_)
    refine g_sel [2, 0, 1, 3, 4, 5, 6] (by decide) ?_
    refine g_eqH (H1 := [vecB a R c s] ++ [RR, Ent.box q [.bool y.1.reg, .int .i64 y.1.n] 61, Ent.box bp [.int .i64 x.op, .int .i64 x.dst, .bool x.a.reg, .int .i64 x.a.n, .bool x.b.reg, .int .i64 x.b.n, .int .i64 x.fn, .slice va vn vc] 114, Ent.box b3 [.int .i64 x.op, .int .i64 x.dst, .bool x.a.reg, .int .i64 x.a.n, .bool x.b.reg, .int .i64 x.b.n, .int .i64 x.fn, .slice va vn vc] 114, Ent.box b2 [.slice a R c] 107, RS]) rfl ?_
    refine g_callS (val := fun _ : Unit => .tuple #[]) (E := fun _ => [vecB a R c (takeV s y.1)]) (φ := fun _ => True) rfl (fun w hw => take_c a R c s hsl2 y.1 y.2 w hw.pre) fun _ _ => ?_
    simp only [List.cons_append, List.nil_append]
    repeat (first | refine g_then ?_ | refine g_nil ?_ | refine g_inBlock ?_)
    refine g_sel [1, 0, 2, 3, 4, 5, 6] (by decide) ?_
    refine g_rnd (takeV s y.1) ?_ (List.Sublist.refl _)
    rw [List.foldl_append, ← hI]; rfl
  · simp only [List.cons_append, List.nil_append]
    repeat (refine g_inBlock ?_)
    refine g_sel [0, 5, 1] (by decide) ?_
    refine g_endM0 rfl hD fun w' hw' => ⟨(), rfl, ?_, trivial⟩
    rw [← hfin, ← hI]
    rw [← hrest] at hw'
    exact wd_rest hz hw'
end Go.Proofs.YtebajiafdkokjaaDoor

/- graph.Ahead, live.BehindOf: what each returns. -/
namespace Go.Proofs.YtebajiafdkokjaaDoor
open Go Go.RowKit
attribute [local irreducible] wpListIn Code.wpIn Exit.then Exit.inBlock bodyPost wpQuiet wpAnyIn
set_option maxHeartbeats 4000000

theorem graphAhead_c (nm pa re : Value) (bl : List LBlock) (bs : Value) (w0 : World) (hbs : SlAt w0 bs 6 bl BlockV) (hlen : bl.length ≤ 100) (hok : GoodB bl) :
    Ret Tryd.prog 93 [.agg #[nm, pa, re, bs]] w0 fun u w' => ∃ x : (Option Addr × Nat × Nat) × (Nat → Prop), u = .slice x.1.1 x.1.2.1 x.1.2.2 ∧ Wd NoS w0 [⟨x.2, fun w => SlAt w (.slice x.1.1 x.1.2.1 x.1.2.2) 1 (aheadL bl) RowV⟩] w' ∧ True := by
  obtain ⟨ba, n, bc, bb, bo', rfl, hn, hnc, hnb, hbc, hba, hel⟩ := hbs
  refine ret_enter Tryd.func93 rfl Tryd.ntmps93 rfl (Wd.nil NoS w0) ?_
  repeat (first | refine g_op rfl ?_ | refine g_then ?_ | refine g_nil ?_ | refine g_region ?_ | refine g_seq ?_ | refine g_box rfl fun _ _ => ?_ | refine g_block ?_ | refine g_make rfl (by omega) (by omega) fun _ _ => ?_)
  rename_i b1 _ bo _
  refine g_nilVecs 3 1 n ?_
  rw [show (List.replicate n (Value.slice none 0 0)) = (List.replicate n (⟨none, 0, []⟩ : Row)).map valR by simp [valR], show (List.replicate n (Ent.vec none 0 0 3 1 [])) = (List.replicate n (⟨none, 0, []⟩ : Row)).map entR by simp [entR]]
  refine g_loop (fun (x : Nat × List Row) => x.1 ≤ n ∧ x.2.map (·.l) = aheadTo bl x.1 ∧ x.2.length = n ∧ ∀ r ∈ x.2, r.l.length ≤ 2 * x.1 ∧ ∀ y ∈ r.l, inI y) (fun x => [(15, .int .i64 x.1), (13, .slice ba n bc), (14, .int .i64 n), (3, .slice (some ⟨bo, 0, none⟩) n n)]) (fun x => Ent.vec (some ⟨bo, 0, none⟩) n n 27 1 (x.2.map valR) :: x.2.map entR) (fun x => n - x.1) (0, List.replicate n ⟨none, 0, []⟩)
    ⟨Nat.zero_le _, by simp [aheadTo, hn], by simp, by simp⟩ (g_done (by repeat (first | exact trivial | refine ⟨rfl, ?_⟩)) (List.Sublist.cons_cons _ (List.Sublist.cons _ (List.Sublist.refl _)))) fun x ⟨hi, hrows, hrl, hbd⟩ => ?_
  obtain ⟨i, rs⟩ := x
  simp only at hi hrows hrl hbd ⊢
  repeat (first | refine g_op rfl ?_ | refine g_then ?_ | refine g_nil ?_ | refine g_region ?_ | refine g_seq ?_)
  refine g_cond (fun h1 => ?_) (fun h1 => ?_)
  · have hlt : i < n := by simpa using h1
    obtain ⟨B, hB⟩ := get_lt hn hlt
    have had : AddrIs ba bb bo' := ⟨hba (ne_of_get hB)⟩
    have hli : LtIs i n := ⟨hlt⟩
    obtain ⟨cs, hcs, pv, lv, tv, rfl, _, _, hphis, hlist, ht⟩ := hel i B hB
    obtain ⟨pa', pn, pc, _, _, rfl, _⟩ := hphis
    obtain ⟨la, ln, lc, _, _, rfl, _⟩ := hlist
    obtain ⟨ta, tn, tc, tb, to', rfl, htn, htnc, htnb, htc, hta, htel⟩ := ht
    have hci : CellsIs w0 bb (bo' + i * 6) _ := ⟨hcs⟩
    have htok : toOk bl.length B.to := hok B (List.mem_of_getElem? hB)
    repeat (first | refine g_op rfl ?_ | refine g_then ?_ | refine g_nil ?_ | refine g_region ?_ | refine g_seq ?_ | refine g_alloc rfl fun _ _ => ?_ | refine g_storeAgg ?_ | refine g_block ?_ | refine g_skip ?_)
    refine g_loop (fun (x : Nat × List Row) => x.1 ≤ tn ∧ x.2.map (·.l) = (B.to.take x.1).foldl (aheadIn i) (aheadTo bl i) ∧ x.2.length = n ∧ ∀ r ∈ x.2, r.l.length ≤ 2 * i + x.1 ∧ ∀ y ∈ r.l, inI y) (fun x => [(24, .int .i64 x.1), (22, .slice ta tn tc), (23, .int .i64 tn), (4, .int .i64 i), (15, .int .i64 i), (13, .slice ba n bc), (14, .int .i64 n), (3, .slice (some ⟨bo, 0, none⟩) n n)])
      (fun x => Ent.vec (some ⟨bo, 0, none⟩) n n 27 1 (x.2.map valR) :: x.2.map entR) (fun x => tn - x.1) (0, rs)
      ⟨Nat.zero_le _, by simpa using hrows, hrl, fun r hr => by simpa using hbd r hr⟩ (g_done (by repeat (first | exact trivial | refine ⟨rfl, ?_⟩)) (List.Sublist.cons _ (List.Sublist.refl _))) fun x ⟨hj, hrows', hrl', hbd'⟩ => ?_
    obtain ⟨j, rs'⟩ := x
    simp only at hj hrows' hrl' hbd' ⊢
    repeat (first | refine g_op rfl ?_ | refine g_then ?_ | refine g_nil ?_ | refine g_region ?_ | refine g_seq ?_)
    refine g_cond (fun h2 => ?_) (fun h2 => ?_)
    · have hjlt : j < tn := by simpa using h2
      obtain ⟨t, htj⟩ := get_lt htn hjlt
      have htt := htok.2 t (List.mem_of_getElem? htj)
      obtain ⟨k, hk⟩ : ∃ k : Nat, t = k := ⟨t.toNat, by omega⟩
      have hkn : k < n := by omega
      have hkl : k < rs'.length := by omega
      obtain ⟨r, hr⟩ : ∃ r, rs'[k]? = some r := ⟨_, List.getElem?_eq_getElem hkl⟩
      have had2 : AddrIs ta tb to' := ⟨hta (ne_of_get htj)⟩
      have hli2 : LtIs j tn := ⟨hjlt⟩
      have hli3 : LtIs k n := ⟨hkn⟩
      have hni : NatIs t k := ⟨hk⟩
      obtain ⟨cs2, hcs2, rfl, _⟩ := htel j t htj
      have hci2 : CellsIs w0 tb (to' + j * 1) _ := ⟨hcs2⟩
      have hxa : XAt (rs'.map valR) (k * 1) (.slice r.a r.l.length r.c) := ⟨by simp [hr, valR]⟩
      have hrb := hbd' r (List.mem_of_getElem? hr)
      repeat (first | refine g_op rfl ?_ | refine g_then ?_ | refine g_nil ?_ | refine g_region ?_ | refine g_seq ?_ | refine g_block ?_ | refine g_skip ?_ | refine g_build1 rfl rfl fun _ _ => ?_)
      rename_i bt _
      have htok1 := htok.1
      refine g_appendAt (k + 2) (xs := r.l.map (.int .i64)) (e := 3) (by simp [hr, entR]) rfl rfl (by omega) (by omega) fun a' c' => ?_
      refine g_eqH (H1 := Ent.vec (some ⟨bt, 0, none⟩) 1 1 3 1 [.int .i64 i] :: Ent.vec (some ⟨bo, 0, none⟩) n n 27 1 (rs'.map valR) :: (rs'.set k ⟨a', c', r.l ++ [(i : Int)]⟩).map entR) (by simp [entR, List.map_set]) ?_
      have hxs : XSet (rs'.map valR) (k * 1) (.slice a' (r.l.length + 1) c') ((rs'.set k ⟨a', c', r.l ++ [(i : Int)]⟩).map valR) := ⟨by simp [valR, List.map_set], by simpa using hkl⟩
      repeat (first | refine g_op rfl ?_ | refine g_then ?_ | refine g_nil ?_ | refine g_region ?_ | refine g_opS rfl ?_ | refine g_inBlock ?_ | refine g_add rfl (by omega) (by omega) ?_ | refine g_storeV ?_)
      refine g_next (j + 1, rs'.set k ⟨a', c', r.l ++ [(i : Int)]⟩) ⟨hjlt, ?_, by simpa using hrl', ?_⟩ (by simp only; omega) (by repeat (first | exact trivial | refine ⟨rfl, ?_⟩)) (List.Sublist.cons _ (List.Sublist.refl _))
      · simp only
        rw [List.take_add_one, htj]
        simp only [Option.toList_some, List.foldl_append, List.foldl_cons, List.foldl_nil]
        rw [← hrows', aheadIn, show t.toNat = k by omega]
        exact map_set_modify hr rfl
      · intro q hq
        rcases List.mem_or_eq_of_mem_set hq with hq | rfl
        · have := hbd' q hq
          exact ⟨by simp only; omega, this.2⟩
        · refine ⟨by simp only [List.length_append, List.length_singleton]; omega, fun y hy => ?_⟩
          rcases List.mem_append.1 hy with hy | hy
          · exact hrb.2 y hy
          · simp only [List.mem_singleton] at hy
            subst hy
            simp only [inI]; omega
    · have hge : j = tn := by have := h2; simp at this; omega
      repeat (first | refine g_then ?_ | refine g_nil ?_ | refine g_region ?_ | refine g_opS rfl ?_ | refine g_inBlock ?_ | refine g_add rfl (by omega) (by omega) ?_ | refine g_exit ?_ | refine g_thenExit ?_ | refine g_exitHere ?_)
      refine g_next (i + 1, rs') ⟨hlt, ?_, hrl', fun r hr => ?_⟩ (by simp only; omega) (by repeat (first | exact trivial | refine ⟨rfl, ?_⟩)) (List.Sublist.refl _)
      · simp only [aheadTo, hB]
        rw [hrows', hge, htn, List.take_length]
      · have := hbd' r hr
        have htok1 := htok.1
        exact ⟨by simp only; omega, this.2⟩
  · have hge : i = n := by have := h1; simp at this; omega
    repeat (first | refine g_op rfl ?_ | refine g_then ?_ | refine g_nil ?_ | refine g_region ?_ | refine g_seq ?_ | refine g_exit ?_ | refine g_thenExit ?_ | refine g_exitHere ?_ | refine g_ret ?_)
    refine g_ret1 rfl fun w hw => ⟨((some ⟨bo, 0, none⟩, n, n), fps (Ent.vec (some ⟨bo, 0, none⟩) n n 27 1 (rs.map valR) :: rs.map entR)), rfl, ?_, trivial⟩
    have hw' : Wd NoS w0 ((Ent.vec (some ⟨bo, 0, none⟩) n n 27 1 (rs.map valR) :: rs.map entR) ++ []) w := by rw [List.append_nil]; exact hw
    refine hw'.pack _ fun w2 hw2 => ?_
    have := rows_sl (H := []) (by rw [List.append_nil]; exact hw2) hrl.symm (by omega) fun r hr => ⟨by have := (hbd r hr).1; omega, (hbd r hr).2⟩
    rw [hrows, hge, hn] at this
    exact hn ▸ this

/-- sets, as one reads them -/
def SetV (w : World) (l : List Bool) (cs : List Value) : Prop := ∃ v, cs = [v] ∧ SlAt w v 1 l BoolV
theorem keeps_set : Keeps SetV := fun _ _ hc _ _ ⟨v, h1, h2⟩ => ⟨v, h1, h2.keep keeps_bool hc⟩
/-- what the sets tell -/
def inOf (rows : List (List Bool)) (t r : Nat) : Prop := ∃ s, rows[t]? = some s ∧ has s r
theorem preds_mem {bl : List LBlock} {t b : Nat} (hb : b < bl.length) (h : (t : Int) ∈ toOf bl b) : b ∈ preds bl t := by
  unfold preds
  rw [List.mem_filter]
  exact ⟨by simpa using hb, by simpa using h⟩
theorem phisOf_get {bl : List LBlock} {t : Nat} {B : LBlock} (h : bl[t]? = some B) : phisOf bl t = B.phis := by simp [phisOf, h]
theorem behindOf_c (nm pa : Value) (R : Nat) (hR : R ≤ 100) (bl : List LBlock) (bs : Value) (b : Nat) (rows : List (List Bool)) (aa ia : Option Addr) (an ac ic : Nat) (w0 : World) (hbs : SlAt w0 bs 6 bl BlockV) (n' : Nat) (hn' : n' = bl.length) (hf : FuncOk R bl) (hb : b < bl.length) (hrl : rows.length = bl.length) (hrR : ∀ s ∈ rows, s.length = R)
    (hah : SlAt w0 (.slice aa an ac) 1 (aheadL bl) RowV) (hin : SlAt w0 (.slice ia n' ic) 1 rows SetV) :
    Ret Tryd.prog 104 [.agg #[nm, pa, .int .i64 R, bs], .slice aa an ac, .slice ia n' ic, .int .i64 b] w0 fun u w' => ∃ x : Nat × List Bool, u = .slice (some ⟨x.1, 0, none⟩) R R ∧ Wd NoS w0 [vecB (some ⟨x.1, 0, none⟩) R R x.2] w' ∧ (x.2.length = R ∧ ∀ r, has x.2 r ↔ Beh bl (inOf rows) b r) := by
  subst hn'
  have hok := hf.good
  have hto : ∀ (b : Nat) (B : LBlock), bl[b]? = some B → B.to.Nodup := fun b B hB => (hf.block b B hB).to
  obtain ⟨ba, n, bc, bb, bo', rfl, hn, hnc, hnb, hbc, hba, hel⟩ := hbs
  obtain ⟨ia', in', ic', ib, io, hv, hin1, _, _, _, hia, hiel⟩ := hin
  simp only [Value.slice.injEq] at hv
  obtain ⟨rfl, rfl, rfl⟩ := hv
  obtain ⟨aa', an', ac', ab, ao, hv, han, _, _, _, haa, hael⟩ := hah
  simp only [Value.slice.injEq] at hv
  obtain ⟨rfl, rfl, rfl⟩ := hv
  rw [← hn] at hb hrl ⊢
  refine ret_enter Tryd.func104 rfl Tryd.ntmps104 rfl (Wd.nil NoS w0) ?_
  obtain ⟨B, hB⟩ := get_lt hn hb
  have had : AddrIs ba bb bo' := ⟨hba (ne_of_get hB)⟩
  have hli : LtIs b n := ⟨hb⟩
  obtain ⟨cs, hcs, pv', lv, tv, rfl, _, _, hphis, hlist, ht⟩ := hel b B hB
  obtain ⟨pa', pn, pc, _, _, rfl, _⟩ := hphis
  obtain ⟨la, ln, lc, _, _, rfl, _⟩ := hlist
  obtain ⟨ta, tn, tc, tb, to', rfl, htn, htnc, htnb, htc, hta, htel⟩ := ht
  have hci : CellsIs w0 bb (bo' + b * 6) _ := ⟨hcs⟩
  have hBok := hok B (List.mem_of_getElem? hB)
  repeat (first | refine g_op rfl ?_ | refine g_then ?_ | refine g_nil ?_ | refine g_region ?_ | refine g_seq ?_ | refine g_box rfl fun _ _ => ?_ | refine g_alloc rfl fun _ _ => ?_ | refine g_storeAgg ?_ | refine g_block ?_ | refine g_make rfl (by omega) (by omega) fun _ _ => ?_)
  rename_i p4 _ ob _ p10 _
  rw [show List.replicate R (Value.bool false) = (List.replicate R false).map Value.bool by simp]
  refine g_loop (fun (x : Nat × List Bool) => x.1 ≤ tn ∧ x.2.length = R ∧ ∀ r, has x.2 r ↔ ∃ t : Nat, (∃ q, q < x.1 ∧ B.to[q]? = some (t : Int)) ∧ (takesR bl t b r = true ∨ inOf rows t r)) (fun x => [(31, .int .i64 x.1), (29, .slice ta tn tc), (30, .int .i64 tn), (9, .slice (some ⟨ob, 0, none⟩) R R), (4, .pointer (some ⟨p4, 0, none⟩)), (1, .slice aa an ac), (2, .slice ia n ic), (3, .int .i64 b)]) (fun x => [vecB (some ⟨ob, 0, none⟩) R R x.2, Ent.box p4 [nm, pa, .int .i64 R, .slice ba n bc] 35]) (fun x => tn - x.1) (0, List.replicate R false)
    ⟨Nat.zero_le _, by simp, fun r => by simp [has, List.getElem?_replicate]⟩ (g_done (by repeat (first | exact trivial | refine ⟨rfl, ?_⟩)) (List.Sublist.cons _ (List.Sublist.refl _))) fun x ⟨hi, hsl, hs⟩ => ?_
  obtain ⟨i, s⟩ := x
  simp only at hi hsl hs ⊢
  repeat (first | refine g_op rfl ?_ | refine g_then ?_ | refine g_nil ?_ | refine g_region ?_ | refine g_seq ?_)
  refine g_cond (fun h1 => ?_) (fun h1 => ?_)
  · have hilt : i < tn := by simpa using h1
    obtain ⟨t, htj⟩ := get_lt htn hilt
    have htt := hBok.2 t (List.mem_of_getElem? htj)
    obtain ⟨k, hk⟩ : ∃ k : Nat, t = k := ⟨t.toNat, by omega⟩
    subst hk
    have hkn : k < n := by omega
    have had2 : AddrIs ta tb to' := ⟨hta (ne_of_get htj)⟩
    have hli2 : LtIs i tn := ⟨hilt⟩
    obtain ⟨cs2, hcs2, rfl, _⟩ := htel i _ htj
    have hci2 : CellsIs w0 tb (to' + i * 1) _ := ⟨hcs2⟩
    obtain ⟨T, hT⟩ := get_lt hn hkn
    have hlk : LtIs k n := ⟨hkn⟩
    obtain ⟨csT, hcsT, pvT, lvT, tvT, rfl, _, _, hphisT, hlistT, htoT⟩ := hel k T hT
    obtain ⟨xa, xn, xc, xb, xo, rfl, hxn, hxnc, hxnb, hxc, hxa, hxel⟩ := hphisT
    obtain ⟨l2a, l2n, l2c, _, _, rfl, _⟩ := hlistT
    obtain ⟨t2a, t2n, t2c, _, _, rfl, _⟩ := htoT
    have hciT : CellsIs w0 bb (bo' + k * 6) _ := ⟨hcsT⟩
    obtain ⟨row, hrow⟩ := get_lt hrl.symm hkn
    have hadi : AddrIs ia ib io := ⟨hia (ne_of_get hrow)⟩
    obtain ⟨csr, hcsr, rv, rfl, hrv⟩ := hiel k row hrow
    have hciR : CellsIs w0 ib (io + k * 1) _ := ⟨hcsr⟩
    have hrowR := hrR row (List.mem_of_getElem? hrow)
    obtain ⟨ra, rn, rc, rb, ro, rfl, hrn, hrnc, hrnb, hrc, hra, hrel⟩ := hrv
    have hrnR : R = rn := by omega
    subst hrnR
    repeat (first | refine g_op rfl ?_ | refine g_then ?_ | refine g_nil ?_ | refine g_region ?_ | refine g_seq ?_ | refine g_alloc rfl fun _ _ => ?_ | refine g_storeAgg ?_ | refine g_block ?_ | refine g_skip ?_)
    rename_i p13 _
    refine g_loop (fun (x : Nat × List Bool) => x.1 ≤ R ∧ x.2.length = R ∧ ∀ r, has x.2 r ↔ (has s r ∨ (r < x.1 ∧ has row r))) (fun x => [(45, .int .i64 x.1), (43, .slice ra R rc), (44, .int .i64 R), (12, .int .i64 k), (13, .pointer (some ⟨p13, 0, none⟩)), (31, .int .i64 i), (29, .slice ta tn tc), (30, .int .i64 tn), (9, .slice (some ⟨ob, 0, none⟩) R R), (4, .pointer (some ⟨p4, 0, none⟩)), (1, .slice aa an ac), (2, .slice ia n ic), (3, .int .i64 b)]) (fun x => [vecB (some ⟨ob, 0, none⟩) R R x.2, Ent.box p13 [.slice xa xn xc, .slice l2a l2n l2c, .int .i64 T.kind, .bool T.on.reg, .int .i64 T.on.n, .slice t2a t2n t2c] 65, Ent.box p4 [nm, pa, .int .i64 R, .slice ba n bc] 35]) (fun x => R - x.1) (0, s)
      ⟨Nat.zero_le _, hsl, fun r => by simp⟩ ?_ fun x ⟨hj, hsl', hs'⟩ => ?_
    · refine g_sel [1, 0, 2] (by decide) ?_
      exact g_done (by repeat (first | exact trivial | refine ⟨rfl, ?_⟩)) (List.Sublist.refl _)
    obtain ⟨j, s'⟩ := x
    simp only at hj hsl' hs' ⊢
    repeat (first | refine g_op rfl ?_ | refine g_then ?_ | refine g_nil ?_ | refine g_region ?_ | refine g_seq ?_)
    refine g_cond (fun h2 => ?_) (fun h2 => ?_)
    · have hjlt : j < R := by simpa using h2
      obtain ⟨y, hy⟩ := get_lt hrn hjlt
      have hadr : AddrIs ra rb ro := ⟨hra (ne_of_get hy)⟩
      have hlj : LtIs j R := ⟨hjlt⟩
      obtain ⟨cs3, hcs3, rfl⟩ := hrel j y hy
      have hci3 : CellsIs w0 rb (ro + j * 1) _ := ⟨hcs3⟩
      obtain ⟨z, hz⟩ : ∃ z, s'[j]? = some z := ⟨_, List.getElem?_eq_getElem (by omega)⟩
      have hez : ElAt s' j z := ⟨hz⟩
      have hnew : ∀ r, has (s'.set j (z || y)) r ↔ (has s r ∨ (r < j + 1 ∧ has row r)) := fun r => by
        unfold has
        rw [List.getElem?_set]
        by_cases e : j = r
        · subst e
          have h3 := hs' j
          unfold has at h3
          rw [hz] at h3
          rw [if_pos rfl, if_pos (by omega), hy]
          cases z <;> cases y <;> simp at h3 ⊢ <;> first | exact h3 | (simp [h3])
        · rw [if_neg e]
          have h3 := hs' r
          unfold has at h3
          rw [h3]
          constructor
          · rintro (h | ⟨h, h4⟩)
            · exact .inl h
            · exact .inr ⟨by omega, h4⟩
          · rintro (h | ⟨h, h4⟩)
            · exact .inl h
            · exact .inr ⟨by omega, h4⟩
      unfold vecB
      cases z
      · repeat (first | refine g_op rfl ?_ | refine g_then ?_ | refine g_nil ?_ | refine g_region ?_ | refine g_seq ?_ | refine g_opS rfl ?_ | refine g_open ?_ | refine g_inBlock ?_ | refine g_block ?_ | refine g_skip ?_ | refine g_add rfl (by omega) (by omega) ?_ | refine g_storeV ?_)
        exact g_next (j + 1, s'.set j y) ⟨hjlt, by simpa using hsl', by simpa using hnew⟩ (by simp only; omega) (by repeat (first | exact trivial | refine ⟨rfl, ?_⟩)) (List.Sublist.refl _)
      · repeat (first | refine g_op rfl ?_ | refine g_then ?_ | refine g_nil ?_ | refine g_region ?_ | refine g_seq ?_ | refine g_opS rfl ?_ | refine g_pass rfl ?_ | refine g_inBlock ?_ | refine g_block ?_ | refine g_skip ?_ | refine g_add rfl (by omega) (by omega) ?_ | refine g_storeV ?_)
        exact g_next (j + 1, s'.set j true) ⟨hjlt, by simpa using hsl', by simpa using hnew⟩ (by simp only; omega) (by repeat (first | exact trivial | refine ⟨rfl, ?_⟩)) (List.Sublist.refl _)
    · have hge : j = R := by have := h2; simp at this; omega
      have hpm := preds_mem (by omega : b < bl.length) (show (k : Int) ∈ toOf bl b by rw [toOf_get hB]; exact List.mem_of_getElem? htj)
      have hag := aheadL_get hok hto (show k < bl.length by omega)
      have hada : AddrIs aa ab ao := ⟨haa (ne_of_get hag)⟩
      have hlka : LtIs k an := ⟨by rw [han]; exact (List.getElem?_eq_some_iff.1 hag).1⟩
      obtain ⟨csa, hcsa, av, rfl, hav⟩ := hael k _ hag
      have hciA : CellsIs w0 ab (ao + k * 1) _ := ⟨hcsa⟩
      have hav0 := hav
      obtain ⟨a2, a2n, a2c, _, _, rfl, _⟩ := hav
      have hTo := hf.block k T hT
      repeat (first | refine g_op rfl ?_ | refine g_then ?_ | refine g_region ?_ | refine g_seq ?_ | refine g_exit ?_ | refine g_thenExit ?_ | refine g_exitHere ?_)
      refine g_callV rfl (fun w hw => index_c _ (preds bl k) b w hpm (hav0.keep keeps_int hw.chg)) ?_
      have hidx : (preds bl k).idxOf b < (preds bl k).length := List.idxOf_lt_length_of_mem hpm
      generalize hix : (preds bl k).idxOf b = ix at hidx
      repeat (first | refine g_op rfl ?_ | refine g_then ?_ | refine g_nil ?_ | refine g_region ?_ | refine g_seq ?_ | refine g_block ?_)
      refine g_loop (fun (x : Nat × List Bool) => x.1 ≤ xn ∧ x.2.length = R ∧ ∀ r, has x.2 r ↔ (has s' r ∨ ∃ q p, q < x.1 ∧ T.phis[q]? = some p ∧ namesR [p.src[ix]?.getD noV] r = true)) (fun x => [(70, .int .i64 x.1), (68, .slice xa xn xc), (69, .int .i64 xn), (16, .int .i64 (ix : Nat)), (12, .int .i64 k), (13, .pointer (some ⟨p13, 0, none⟩)), (31, .int .i64 i), (29, .slice ta tn tc), (30, .int .i64 tn), (9, .slice (some ⟨ob, 0, none⟩) R R), (4, .pointer (some ⟨p4, 0, none⟩)), (1, .slice aa an ac), (2, .slice ia n ic), (3, .int .i64 b)]) (fun x => [vecB (some ⟨ob, 0, none⟩) R R x.2, Ent.box p13 [.slice xa xn xc, .slice l2a l2n l2c, .int .i64 T.kind, .bool T.on.reg, .int .i64 T.on.n, .slice t2a t2n t2c] 65, Ent.box p4 [nm, pa, .int .i64 R, .slice ba n bc] 35]) (fun x => xn - x.1) (0, s')
        ⟨Nat.zero_le _, hsl', fun r => by simp⟩ (g_done (by repeat (first | exact trivial | refine ⟨rfl, ?_⟩)) (List.Sublist.refl _)) fun x ⟨hj3, hsl3, hs3⟩ => ?_
      obtain ⟨m, s3⟩ := x
      simp only at hj3 hsl3 hs3 ⊢
      repeat (first | refine g_op rfl ?_ | refine g_then ?_ | refine g_nil ?_ | refine g_region ?_ | refine g_seq ?_)
      refine g_cond (fun h3 => ?_) (fun h3 => ?_)
      · have hmlt : m < xn := by simpa using h3
        obtain ⟨p, hp⟩ := get_lt hxn hmlt
        have hadx : AddrIs xa xb xo := ⟨hxa (ne_of_get hp)⟩
        have hlm : LtIs m xn := ⟨hmlt⟩
        obtain ⟨csp, hcsp, sv, rfl, _, hsv⟩ := hxel m p hp
        have hciP : CellsIs w0 xb (xo + m * 2) _ := ⟨hcsp⟩
        have hpo := hTo.phis p (List.mem_of_getElem? hp)
        obtain ⟨s2a, s2n, s2c, s2b, s2o, rfl, hs2n, _, _, _, hs2a, hs2el⟩ := hsv
        obtain ⟨v, hv⟩ : ∃ v, p.src[ix]? = some v := ⟨_, List.getElem?_eq_getElem (by rw [hpo.len]; exact hidx)⟩
        have hads : AddrIs s2a s2b s2o := ⟨hs2a (ne_of_get hv)⟩
        have hlix : LtIs ix s2n := ⟨by rw [hs2n, hpo.len]; exact hidx⟩
        obtain ⟨csv, hcsv, rfl, _⟩ := hs2el ix v hv
        have hciV : CellsIs w0 s2b (s2o + ix * 2) _ := ⟨hcsv⟩
        have hvo := hpo.vals v (List.mem_of_getElem? hv)
        repeat (first | refine g_op rfl ?_ | refine g_then ?_ | refine g_nil ?_ | refine g_region ?_ | refine g_seq ?_ | refine g_alloc rfl fun _ _ => ?_ | refine g_storeAgg ?_ | refine g_block ?_ | refine g_skip ?_)
        rename_i p18 _
        refine g_sel [1, 0, 2, 3] (by decide) ?_
        refine g_eqH (H1 := [vecB (some ⟨ob, 0, none⟩) R R s3] ++ [Ent.box p18 [.int .i64 p.dst, .slice s2a s2n s2c] 97, Ent.box p13 [.slice xa xn xc, .slice l2a l2n l2c, .int .i64 T.kind, .bool T.on.reg, .int .i64 T.on.n, .slice t2a t2n t2c] 65, Ent.box p4 [nm, pa, .int .i64 R, .slice ba n bc] 35]) rfl ?_
        refine g_callS (val := fun _ : Unit => .tuple #[]) (E := fun _ => [vecB (some ⟨ob, 0, none⟩) R R (takeV s3 v)]) (φ := fun _ => True) rfl (fun w hw => take_c (some ⟨ob, 0, none⟩) R R s3 hsl3 v hvo w hw.pre) fun _ _ => ?_
        simp only [List.cons_append, List.nil_append]
        repeat (first | refine g_then ?_ | refine g_nil ?_ | refine g_region ?_ | refine g_opS rfl ?_ | refine g_inBlock ?_ | refine g_add rfl (by omega) (by omega) ?_)
        refine g_next (m + 1, takeV s3 v) ⟨hmlt, by rw [takeV_length]; exact hsl3, fun r => ?_⟩ (by simp only; omega) (by repeat (first | exact trivial | refine ⟨rfl, ?_⟩)) (List.Sublist.cons_cons _ (List.Sublist.cons _ (List.Sublist.refl _)))
        simp only
        rw [has_takeV (by rw [hsl3]; exact hvo), hs3 r]
        have hnm : namesR [p.src[ix]?.getD noV] r = true ↔ (v.reg = true ∧ v.n = r) := by rw [hv]; simp [namesR]
        constructor
        · rintro ((h | ⟨q, p', h4, h5, h6⟩) | h)
          · exact .inl h
          · exact .inr ⟨q, p', by omega, h5, h6⟩
          · exact .inr ⟨m, p, by omega, hp, hnm.2 h⟩
        · rintro (h | ⟨q, p', h4, h5, h6⟩)
          · exact .inl (.inl h)
          · by_cases e : q = m
            · subst e
              rw [hp] at h5
              simp only [Option.some.injEq] at h5
              subst h5
              exact .inr (hnm.1 h6)
            · exact .inl (.inr ⟨q, p', by omega, h5, h6⟩)
      · have hge3 : m = xn := by have := h3; simp at this; omega
        repeat (first | refine g_then ?_ | refine g_nil ?_ | refine g_region ?_ | refine g_opS rfl ?_ | refine g_inBlock ?_ | refine g_add rfl (by omega) (by omega) ?_ | refine g_exit ?_ | refine g_thenExit ?_ | refine g_exitHere ?_)
        refine g_next (i + 1, s3) ⟨hilt, hsl3, fun r => ?_⟩ (by simp only; omega) (by repeat (first | exact trivial | refine ⟨rfl, ?_⟩)) (List.Sublist.cons_cons _ (List.Sublist.cons _ (List.Sublist.refl _)))
        simp only
        rw [hs3 r, hs' r, hs r]
        have htk : takesR bl k b r = true ↔ ∃ q p, q < m ∧ T.phis[q]? = some p ∧ namesR [p.src[ix]?.getD noV] r = true := by
          unfold takesR
          rw [phisOf_get hT, List.any_eq_true, hix]
          constructor
          · rintro ⟨p, hp, h⟩
            obtain ⟨q, hq⟩ := List.getElem?_of_mem hp
            exact ⟨q, p, by have := (List.getElem?_eq_some_iff.1 hq).1; omega, hq, h⟩
          · rintro ⟨q, p, _, hq, h⟩
            exact ⟨p, List.mem_of_getElem? hq, h⟩
        have hIn : inOf rows k r ↔ (r < j ∧ has row r) := by
          unfold inOf
          rw [hrow]
          constructor
          · rintro ⟨s, e, h⟩
            simp only [Option.some.injEq] at e
            subst e
            exact ⟨by have := (List.getElem?_eq_some_iff.1 h).1; omega, h⟩
          · rintro ⟨_, h⟩; exact ⟨row, rfl, h⟩
        rw [← htk, ← hIn]
        constructor
        · rintro ((⟨t, ⟨q, h4, h5⟩, h6⟩ | h) | h)
          · exact ⟨t, ⟨q, by omega, h5⟩, h6⟩
          · exact ⟨k, ⟨i, by omega, htj⟩, .inr h⟩
          · exact ⟨k, ⟨i, by omega, htj⟩, .inl h⟩
        · rintro ⟨t, ⟨q, h4, h5⟩, h6⟩
          by_cases e : q = i
          · subst e
            rw [htj] at h5
            have h7 : (k : Int) = t := by simpa using h5
            have : k = t := by omega
            subst this
            rcases h6 with h6 | h6
            · exact .inr h6
            · exact .inl (.inr h6)
          · exact .inl (.inl ⟨t, ⟨q, by omega, h5⟩, h6⟩)
  · have hge : i = tn := by have := h1; simp at this; omega
    repeat (first | refine g_op rfl ?_ | refine g_then ?_ | refine g_nil ?_ | refine g_region ?_ | refine g_seq ?_ | refine g_exit ?_ | refine g_thenExit ?_ | refine g_exitHere ?_ | refine g_ret ?_)
    refine g_ret1 rfl fun w hw => ⟨(ob, s), rfl, hw.sel [0] (by decide), hsl, fun r => ?_⟩
    simp only
    rw [hs r]
    unfold Beh
    rw [toOf_get hB]
    constructor
    · rintro ⟨t, ⟨q, _, hq⟩, h⟩; exact ⟨t, List.mem_of_getElem? hq, h⟩
    · rintro ⟨t, ht, h⟩
      obtain ⟨q, hq⟩ := List.getElem?_of_mem ht
      exact ⟨t, ⟨q, by have := (List.getElem?_eq_some_iff.1 hq).1; omega, hq⟩, h⟩
end Go.Proofs.YtebajiafdkokjaaDoor

/- live.AllOf: what it returns. -/
namespace Go.Proofs.YtebajiafdkokjaaDoor
open Go Go.RowKit
attribute [local irreducible] wpListIn Code.wpIn Exit.then Exit.inBlock bodyPost wpQuiet wpAnyIn bodyPostM
set_option maxHeartbeats 4000000

structure RowB where
  a : Option Addr
  c : Nat
  l : List Bool
def valS (R : Nat) (r : RowB) : Value := .slice r.a R r.c
def entS (R : Nat) (r : RowB) : Ent := vecB r.a R r.c r.l
theorem sets_sl {S : Nat → Prop} {w0 w : World} {R : Nat} {rs : List RowB} {a : Option Addr} {n c e : Nat} {H : List Ent} (h : Wd S w0 (Ent.vec a n c e 1 (rs.map (valS R)) :: (rs.map (entS R) ++ H)) w) (hn : n = rs.length) (hb : n ≤ 1000) (hR : R ≤ 1000) (hl : ∀ r ∈ rs, r.l.length = R) :
    SlAt w (.slice a n c) 1 (rs.map (·.l)) SetV := by
  refine h.slAt (k := 0) rfl (by simpa using hn) (by omega) fun i x hx => ?_
  rw [List.getElem?_map] at hx
  obtain ⟨r, hr, rfl⟩ := Option.map_eq_some_iff.1 hx
  have hlt : i < rs.length := (List.getElem?_eq_some_iff.1 hr).1
  have hb' := hl r (List.mem_of_getElem? hr)
  refine ⟨[valS R r], fun j v hj => ?_, valS R r, rfl, ?_⟩
  · match j, hj with
    | 0, hj => simpa [hr] using hj
  · refine h.slAt (k := i + 1) (a := r.a) (n := R) (c := r.c) (e := 4) (s := 1) (xs := r.l.map .bool) ?_ hb'.symm (by omega) fun j y hy => ⟨[.bool y], fun k v hk => ?_, rfl⟩
    · rw [List.getElem?_cons_succ, List.getElem?_append_left (by simpa using hlt), List.getElem?_map, hr]; rfl
    · match k, hk with
      | 0, hk => simpa [hy] using hk
theorem set_sl {S : Nat → Prop} {w0 w : World} {R : Nat} {rs : List RowB} {E H : List Ent} (h : Wd S w0 (E ++ (rs.map (entS R) ++ H)) w) {i : Nat} {r : RowB} (hr : rs[i]? = some r) (hR : R ≤ 1000) (hl : r.l.length = R) : SlAt w (valS R r) 1 r.l BoolV := by
  have hlt : i < rs.length := (List.getElem?_eq_some_iff.1 hr).1
  refine h.slAt (k := E.length + i) (a := r.a) (n := R) (c := r.c) (e := 4) (s := 1) (xs := r.l.map .bool) ?_ hl.symm (by omega) fun j y hy => ⟨[.bool y], fun k v hk => ?_, rfl⟩
  · rw [List.getElem?_append_right (by omega), show E.length + i - E.length = i by omega, List.getElem?_append_left (by simpa using hlt), List.getElem?_map, hr]; rfl
  · match k, hk with
    | 0, hk => simpa [hy] using hk
/-- rounds over instructions, from the last to the first -/
abbrev InsA (R : Nat) (wz : World) : Type := { y : Int × LIns × (Option Addr × Nat × Nat) // InsOk R y.2.1 ∧ y.2.1.args.length ≤ 1000 ∧ SlAt wz (.slice y.2.2.1 y.2.2.2.1 y.2.2.2.2) 2 y.2.1.args ValV }
def insC (x : LIns) (v : Option Addr × Nat × Nat) : List Value := [.int .i64 x.op, .int .i64 x.dst, .bool x.a.reg, .int .i64 x.a.n, .bool x.b.reg, .int .i64 x.b.n, .int .i64 x.fn, .slice v.1 v.2.1 v.2.2]
def InsA.enc {R : Nat} {wz : World} (y : InsA R wz) : Int × List Value := (y.1.1, insC y.1.2.1 y.1.2.2)
/-- a list, each element with what is told of it -/
theorem list_pick {α β : Type} {p : Nat → α → β → Prop} : ∀ (l : List α), (∀ i x, l[i]? = some x → ∃ y, p i x y) → ∃ ys : List β, ys.length = l.length ∧ ∀ i x, l[i]? = some x → ∃ y, ys[i]? = some y ∧ p i x y := by
  intro l h
  classical
  refine ⟨(List.range l.length).attach.map fun i => Classical.choose (h i.1 (l[i.1]'(by have := i.2; simpa using this)) (List.getElem?_eq_getElem _)), by simp, fun i x hx => ?_⟩
  have hlt := (List.getElem?_eq_some_iff.1 hx).1
  have hx2 := (List.getElem?_eq_some_iff.1 hx).2
  refine ⟨_, by rw [List.getElem?_eq_getElem (by simpa using hlt)], ?_⟩
  simp only [List.getElem_map, List.getElem_attach, List.getElem_range]
  have := Classical.choose_spec (h i (l[i]'hlt) (List.getElem?_eq_getElem _))
  simpa [hx2] using this
theorem insA_ex {R : Nat} {wz : World} {a : Option Addr} {n c b o : Nat} {l : List LIns} (hok : ∀ x ∈ l, InsOk R x) (hargs : ∀ x ∈ l, x.args.length ≤ 1000) (hel : ∀ i x, l[i]? = some x → ∃ cs, CellsAt wz b (o + i * 8) cs ∧ InsV wz x cs) :
    ∃ (zs : List (List Value)) (xs : List (InsA R wz)), zs.length = l.length ∧ (∀ z ∈ zs, z.length = 8) ∧ xs.map InsA.enc = downL zs zs.length ∧ xs.map (·.1.2.1) = l.reverse ∧ ∀ m z, zs[m]? = some z → ∀ j v, z[j]? = some v → wz.cell? ⟨b, o + m * 8 + j, none⟩ = some v := by
  obtain ⟨ys, hyl, hys⟩ := list_pick (p := fun i x (v : Option Addr × Nat × Nat) => CellsAt wz b (o + i * 8) (insC x v) ∧ SlAt wz (.slice v.1 v.2.1 v.2.2) 2 x.args ValV) l fun i x hx => by
    obtain ⟨cs, hc, v, rfl, _, _, _, _, _, hs⟩ := hel i x hx
    have hs0 := hs
    obtain ⟨va, vn, vc, _, _, rfl, _⟩ := hs
    exact ⟨(va, vn, vc), hc, hs0⟩
  have hex : ∀ k, k ≤ l.length → ∃ xs : List (InsA R wz), xs.map InsA.enc = downL ((List.range l.length).map fun i => insC (l[i]?.getD ⟨0, 0, noV, noV, 0, []⟩) (ys[i]?.getD (none, 0, 0))) k ∧ xs.map (·.1.2.1) = l.reverse.take k := by
    intro k
    induction k with
    | zero => exact fun _ => ⟨[], by simp [downL], by simp⟩
    | succ k ih =>
      intro hk
      obtain ⟨xs, h1, h2⟩ := ih (by omega)
      obtain ⟨x, hx⟩ : ∃ x, l[l.length - 1 - k]? = some x := ⟨_, List.getElem?_eq_getElem (by omega)⟩
      obtain ⟨v, hv, hc, hs⟩ := hys _ x hx
      refine ⟨xs ++ [⟨(((l.length - 1 - k : Nat) : Int), x, v), hok x (List.mem_of_getElem? hx), hargs x (List.mem_of_getElem? hx), hs⟩], ?_, ?_⟩
      · rw [List.map_append, h1]
        simp only [downL, List.range_succ, List.map_append, List.map_cons, List.map_nil, List.length_map, List.length_range]
        congr 1
        have hlt : l.length - 1 - k < l.length := by omega
        simp only [InsA.enc, List.getElem?_map, List.getElem?_range hlt, Option.map_some, Option.getD_some, hx, hv]
      · rw [List.map_append, h2, List.take_add_one, List.getElem?_reverse (by omega), hx]; rfl
  obtain ⟨xs, h1, h2⟩ := hex l.length (Nat.le_refl _)
  refine ⟨(List.range l.length).map fun i => insC (l[i]?.getD ⟨0, 0, noV, noV, 0, []⟩) (ys[i]?.getD (none, 0, 0)), xs, by simp, fun z hz => ?_, by simpa using h1, by rw [h2, List.take_of_length_le (by simp)], fun m z hz j v hj => ?_⟩
  · obtain ⟨i, _, rfl⟩ := List.mem_map.1 hz
    rfl
  · rw [List.getElem?_map] at hz
    obtain ⟨i, hi, rfl⟩ := Option.map_eq_some_iff.1 hz
    have hlt : m < l.length := by have := (List.getElem?_eq_some_iff.1 hi).1; simpa using this
    rw [List.getElem?_range hlt] at hi
    simp only [Option.some.injEq] at hi
    subst hi
    obtain ⟨x, hx⟩ : ∃ x, l[m]? = some x := ⟨_, List.getElem?_eq_getElem hlt⟩
    obtain ⟨v', hv', hc, _⟩ := hys m x hx
    rw [hx, hv'] at hj
    exact hc j v hj
theorem backInsStops {R : Nat} {own : Nat → Prop} {wz w : World} {Bs n c b o : Nat} {a : Option Addr} {zs : List (List Value)} {xs : List (InsA R wz)} (hn : n = zs.length) (ha : zs ≠ [] → a = some ⟨b, o, none⟩) (hlen : zs.length ≤ 100000) (h8 : ∀ z ∈ zs, z.length = 8)
    (hcell : ∀ m z, zs[m]? = some z → ∀ j v, z[j]? = some v → wz.cell? ⟨b, o + m * 8 + j, none⟩ = some v) (hown : ∀ b, b < wz.heap.size → ¬ own b) (hBo : ¬ own Bs) (hw : Chg NoS wz w) (hB : w.cell? ⟨Bs, 0, none⟩ = some (.slice a n c)) (hxs : xs.map InsA.enc = downL zs zs.length) :
    SeqStopsK (FW none) 4 Tryd.prog 114 #[.pointer (some ⟨Bs, 0, none⟩)] (fun x : InsA R wz => #[.int .i64 (InsA.enc x).1, .agg (InsA.enc x).2.toArray]) (KeepX own) (fun ys => ys = xs) (fun pre => pre <+: xs) xs.length w := by
  intro l J Jx W hW _ _ hY h0
  have hxl : xs.length = zs.length := by have := congrArg List.length hxs; rwa [List.length_map, downL_length] at this
  subst hn
  have hcW : ∀ p v, w.cell? p = some v → W.cell? p = some v := fun p v hp => (hW.cell (World.block_lt_of_cell? w _ hp)).trans hp
  refine backIns1_in 4 (by omega) InsA.enc l Bs b o c (fun b => ¬ own b) (KeepX own) (KeepX.refl own) (fun _ _ _ h k => h.trans k) (fun A B h p v hp hc => h.cell hp hc) zs xs hxs hlen (fun hne => ?_) hBo J Jx a (fun hne => ha hne) (fun pre x W1 hJ hl => hY pre x W1 hJ (by omega)) W (hcW _ _ hB) h8 (fun m z hz j v hj => hcW _ _ (cell_keep hw (hcell m z hz j v hj))) h0
  obtain ⟨z, hz⟩ : ∃ z, zs[0]? = some z := ⟨_, List.getElem?_eq_getElem (List.length_pos_iff.2 hne)⟩
  have hz8 := h8 z (List.mem_of_getElem? hz)
  obtain ⟨v, hv⟩ : ∃ v, z[0]? = some v := ⟨_, List.getElem?_eq_getElem (by omega)⟩
  exact hown b (World.block_lt_of_cell? wz _ (hcell 0 z hz 0 v hv))
end Go.Proofs.YtebajiafdkokjaaDoor

/- live.AllOf, walked. -/
namespace Go.Proofs.YtebajiafdkokjaaDoor
open Go Go.RowKit
attribute [local irreducible] wpListIn Code.wpIn Exit.then Exit.inBlock bodyPost wpQuiet wpAnyIn bodyPostM
set_option maxHeartbeats 8000000

/-- how much is not yet in -/
def missing (rs : List RowB) : Nat := (rs.map fun r => unseen r.l).sum
theorem missing_set {rs : List RowB} {b : Nat} {r r' : RowB} (h : rs[b]? = some r) : missing (rs.set b r') + unseen r.l = missing rs + unseen r'.l := by
  unfold missing
  induction rs generalizing b with
  | nil => simp at h
  | cons x rs ih =>
    cases b with
    | zero =>
      simp only [List.getElem?_cons_zero, Option.some.injEq] at h
      subst h
      simp only [List.set_cons_zero, List.map_cons, List.sum_cons]
      omega
    | succ b =>
      have := ih (by simpa using h)
      simp only [List.set_cons_succ, List.map_cons, List.sum_cons] at this ⊢
      omega
theorem unseen_less : ∀ {l m : List Bool}, l.length = m.length → (∀ r, has l r → has m r) → l ≠ m → unseen m < unseen l
  | [], [], _, _, h => absurd rfl h
  | [], _ :: _, h, _, _ => by simp at h
  | _ :: _, [], h, _, _ => by simp at h
  | x :: l, y :: m, h, hs, hne => by
    have hl : l.length = m.length := by simpa using h
    have ht : ∀ r, has l r → has m r := fun r hr => by have := hs (r + 1); simpa [has] using this (by simpa [has] using hr)
    have h0 := hs 0
    simp only [has, List.getElem?_cons_zero, Option.some.injEq] at h0
    by_cases e : l = m
    · subst e
      cases x <;> cases y <;> simp_all [unseen]
    · have := unseen_less hl ht e
      cases x <;> cases y <;> simp_all [unseen] <;> omega
/-- what the sets of a function tell: no more than is live, and each told by the others -/
structure LiveI (R : Nat) (bl : List LBlock) (rs : List RowB) : Prop where
  len : rs.length = bl.length
  row : ∀ r ∈ rs, r.l.length = R
  pre : ∀ b r, inOf (rs.map (·.l)) b r → Head bl (inOf (rs.map (·.l))) b r
  sound : ∀ b r, inOf (rs.map (·.l)) b r → LiveS bl r b (-1)
theorem inOf_get {rs : List RowB} {b r : Nat} {q : RowB} (h : rs[b]? = some q) : inOf (rs.map (·.l)) b r ↔ has q.l r := by
  unfold inOf
  rw [List.getElem?_map, h]
  simp
theorem inOf_set {rs : List RowB} {b t r : Nat} {q : RowB} (hb : b < rs.length) : inOf ((rs.set b q).map (·.l)) t r ↔ (if t = b then has q.l r else inOf (rs.map (·.l)) t r) := by
  unfold inOf
  rw [List.getElem?_map, List.getElem?_set]
  by_cases e : b = t
  · subst e
    rw [if_pos rfl, if_pos hb, if_pos rfl]
    simp
  · rw [if_neg e, if_neg (Ne.symm e), List.getElem?_map]
theorem LiveI.upd {R : Nat} {bl : List LBlock} {rs : List RowB} {b : Nat} {q : RowB} (h : LiveI R bl rs) (hb : b < rs.length) (hq : q.l.length = R) (hh : ∀ r, has q.l r ↔ Head bl (inOf (rs.map (·.l))) b r) : LiveI R bl (rs.set b q) := by
  have up : ∀ t r, inOf (rs.map (·.l)) t r → inOf ((rs.set b q).map (·.l)) t r := fun t r hr => by
    rw [inOf_set hb]
    by_cases e : t = b
    · subst e
      rw [if_pos rfl, hh r]
      exact h.pre t r hr
    · rw [if_neg e]; exact hr
  refine ⟨by rw [List.length_set]; exact h.len, fun r hr => ?_, fun t r hr => ?_, fun t r hr => ?_⟩
  · rcases List.mem_or_eq_of_mem_set hr with hr | rfl
    · exact h.row r hr
    · exact hq
  · rw [inOf_set hb] at hr
    by_cases e : t = b
    · subst e
      rw [if_pos rfl, hh r] at hr
      exact hr.mono up
    · rw [if_neg e] at hr
      exact (h.pre t r hr).mono up
  · rw [inOf_set hb] at hr
    by_cases e : t = b
    · subst e
      rw [if_pos rfl, hh r] at hr
      exact head_live h.sound hr
    · rw [if_neg e] at hr
      exact h.sound t r hr
/-- what AllOf hands back -/
structure AllR (R : Nat) (bl : List LBlock) (ins outs : List RowB) : Prop where
  inLen : ins.length = bl.length
  outLen : outs.length = bl.length
  inRow : ∀ r ∈ ins, r.l.length = R
  outRow : ∀ r ∈ outs, r.l.length = R
  inAt : ∀ b q r, ins[b]? = some q → (has q.l r ↔ LiveS bl r b (-1))
  outAt : ∀ b q r B, outs[b]? = some q → bl[b]? = some B → (has q.l r ↔ LiveS bl r b (B.list.length + 1))
theorem allR_of {R : Nat} {bl : List LBlock} {ins outs : List RowB} (h : LiveI R bl ins) (ho : outs.length = bl.length) (hor : ∀ r ∈ outs, r.l.length = R) (hc : ∀ b, b < bl.length → ∀ r, Head bl (inOf (ins.map (·.l))) b r → inOf (ins.map (·.l)) b r) (hb : ∀ b q r, outs[b]? = some q → (has q.l r ↔ Beh bl (inOf (ins.map (·.l))) b r)) : AllR R bl ins outs := by
  have hcl : ∀ r b, Head bl (inOf (ins.map (·.l))) b r → inOf (ins.map (·.l)) b r := fun r b hh => by
    obtain ⟨B, hB, _⟩ := id hh
    exact hc b (List.getElem?_eq_some_iff.1 hB).1 r hh
  refine ⟨h.len, ho, h.row, hor, fun b q r hq => ?_, fun b q r B hq hB => ?_⟩
  · rw [← inOf_get hq]
    refine ⟨h.sound b r, fun hl => ?_⟩
    obtain ⟨B, hB⟩ : ∃ B, bl[b]? = some B := ⟨_, List.getElem?_eq_getElem (by have := (List.getElem?_eq_some_iff.1 hq).1; rw [← h.len]; exact this)⟩
    exact (live_closed (fun b => hcl r b) hl B hB).1 rfl
  · rw [hb b q r hq]
    refine ⟨fun hh => beh_live h.sound hB (.inr rfl) hh, fun hl => ?_⟩
    exact (live_closed (fun b => hcl r b) hl B hB).2.2 rfl
theorem g_wd {N : Nat} {ds : List Deferred} {S : Nat → Prop} {w0 : World} {L : List (Nat × Value)} {H H' : List Ent} {p : Act → World → Prop} (h : ∀ w, Wd S w0 H w → Wd S w0 H' w) (k : G N ds S w0 L H' p) : G N ds S w0 L H p := fun a w hS => k a w ⟨hS.fr, h w hS.wd⟩
theorem perm_two {α : Type} (m r : α) (X O M : List α) : (m :: r :: (X ++ (O ++ M))).Perm (X ++ ((O ++ [r]) ++ (m :: M))) := by
  have h1 : X ++ ((O ++ [r]) ++ (m :: M)) = (X ++ O) ++ r :: (m :: M) := by simp [List.append_assoc]
  rw [h1, ← List.append_assoc]
  exact (List.Perm.swap _ _ _).trans (((List.perm_middle (l₁ := X ++ O) (a := m) (l₂ := M)).symm.cons r).trans (List.perm_middle (l₁ := X ++ O) (a := r) (l₂ := m :: M)).symm)
theorem wd_put {S : Nat → Prop} {w0 w : World} {e old : Ent} {X I Y : List Ent} {b : Nat} (h : Wd S w0 (e :: (X ++ (I ++ Y))) w) (hb : I[b]? = some old) : Wd S w0 (X ++ (I.set b e ++ Y)) w := by
  have h1 : Wd S w0 (e :: (X ++ (I.eraseIdx b ++ Y))) w := h.sub (List.Sublist.cons_cons _ (List.Sublist.append_left (List.Sublist.append_right (List.eraseIdx_sublist I b) Y) X))
  refine h1.perm ((List.perm_middle (l₁ := X) (a := e) (l₂ := I.eraseIdx b ++ Y)).symm.trans ?_)
  exact List.Perm.append_left X (List.Perm.append_right Y (perm_set hb e))
theorem allOf_c (nm pa : Value) (R : Nat) (hR : R ≤ 100) (bl : List LBlock) (bs : Value) (w0 : World) (hbs : SlAt w0 bs 6 bl BlockV) (hlen : bl.length ≤ 100) (hf : FuncOk R bl) (hargs : ∀ B ∈ bl, ∀ x ∈ B.list, x.args.length ≤ 1000) (hlist : ∀ B ∈ bl, B.list.length ≤ 1000 ∧ B.phis.length ≤ 1000) :
    Ret Tryd.prog 70 [.agg #[nm, pa, .int .i64 R, bs]] w0 fun u w' => ∃ x : (Option Addr × Nat × List RowB) × (Option Addr × Nat × List RowB), u = .tuple #[.slice x.1.1 bl.length x.1.2.1, .slice x.2.1 bl.length x.2.2.1] ∧
      Wd NoS w0 (Ent.vec x.1.1 bl.length x.1.2.1 107 1 (x.1.2.2.map (valS R)) :: Ent.vec x.2.1 bl.length x.2.2.1 107 1 (x.2.2.2.map (valS R)) :: (x.1.2.2.map (entS R) ++ x.2.2.2.map (entS R))) w' ∧ AllR R bl x.1.2.2 x.2.2.2 := by
  have hbs0 := hbs
  have hok := hf.good
  obtain ⟨ba, n, bc, bb, bo', rfl, hn, hnc, hnb, hbc, hba, hel⟩ := hbs
  rw [← hn] at hlen ⊢
  refine ret_enterM Tryd.func70 rfl Tryd.ntmps70 rfl (Wd.nil NoS w0) ?_
  repeat (first | refine g_op rfl ?_ | refine g_then ?_ | refine g_nil ?_ | refine g_region ?_ | refine g_seq ?_ | refine g_box rfl fun _ _ => ?_)
  rename_i p1 _
  refine g_callE (val := fun x : (Option Addr × Nat × Nat) × (Nat → Prop) => .slice x.1.1 x.1.2.1 x.1.2.2) (E := fun x => [⟨x.2, fun w => SlAt w (.slice x.1.1 x.1.2.1 x.1.2.2) 1 (aheadL bl) RowV⟩]) (φ := fun _ => True) rfl (fun w hw => graphAhead_c _ _ _ bl _ w (hbs0.keep keeps_block hw.chg) (by omega) hok) fun x _ => ?_
  obtain ⟨⟨aa, an, ac⟩, fp⟩ := x
  simp only [List.cons_append, List.nil_append]
  repeat (first | refine g_op rfl ?_ | refine g_then ?_ | refine g_nil ?_ | refine g_region ?_ | refine g_seq ?_ | refine g_block ?_)
  refine g_nilVec 107 1 ?_
  refine g_loop (fun (x : Option Addr × Nat × List RowB) => x.2.2.length ≤ n ∧ ∀ r ∈ x.2.2, r.l = List.replicate R false) (fun x => [(17, .int .i64 x.2.2.length), (16, .int .i64 n), (2, .slice x.1 x.2.2.length x.2.1), (3, .slice none 0 0), (4, .slice aa an ac), (1, .pointer (some ⟨p1, 0, none⟩))])
    (fun x => ⟨fp, fun w => SlAt w (.slice aa an ac) 1 (aheadL bl) RowV⟩ :: Ent.box p1 [nm, pa, .int .i64 R, .slice ba n bc] 35 :: Ent.vec x.1 x.2.2.length x.2.1 107 1 (x.2.2.map (valS R)) :: x.2.2.map (entS R)) (fun x => n - x.2.2.length) (none, 0, []) ⟨Nat.zero_le _, by simp⟩ ?_ fun x ⟨hi, hall⟩ => ?_
  · refine g_sel [1, 2, 0] (by decide) ?_
    exact g_done (by repeat (first | exact trivial | refine ⟨rfl, ?_⟩)) (List.Sublist.refl _)
  obtain ⟨ia, ic, ins⟩ := x
  simp only at hi hall ⊢
  repeat (first | refine g_op rfl ?_ | refine g_then ?_ | refine g_nil ?_ | refine g_region ?_ | refine g_seq ?_)
  refine g_cond (fun h1 => ?_) (fun h1 => ?_)
  · have hlt : ins.length < n := by simpa using h1
    repeat (first | refine g_op rfl ?_ | refine g_then ?_ | refine g_region ?_ | refine g_seq ?_ | refine g_block ?_ | refine g_skip ?_ | refine g_build1 rfl rfl fun _ _ => ?_ | refine g_make rfl (by omega) (by omega) fun _ _ => ?_)
    rename_i pr _ bt _
    refine g_append rfl rfl (by omega) (by omega) fun a' c' => ?_
    rw [show List.replicate R (Value.bool false) = (List.replicate R false).map Value.bool by simp]
    refine g_fix (L' := [(24, .slice a' (ins.length + 1) c'), (17, .int .i64 ins.length), (16, .int .i64 n), (3, .slice none 0 0), (4, .slice aa an ac), (1, .pointer (some ⟨p1, 0, none⟩))]) (by repeat (first | exact trivial | refine ⟨rfl, ?_⟩)) (List.Sublist.cons _ (List.Sublist.refl _)) ?_
    refine g_permH (List.perm_append_singleton _ _).symm ?_
    refine g_eqH (H1 := ⟨fp, fun w => SlAt w (.slice aa an ac) 1 (aheadL bl) RowV⟩ :: Ent.box p1 [nm, pa, .int .i64 R, .slice ba n bc] 35 :: Ent.vec a' (ins ++ [(⟨some ⟨pr, 0, none⟩, R, List.replicate R false⟩ : RowB)]).length c' 107 1 ((ins ++ [(⟨some ⟨pr, 0, none⟩, R, List.replicate R false⟩ : RowB)]).map (valS R)) :: (ins ++ [(⟨some ⟨pr, 0, none⟩, R, List.replicate R false⟩ : RowB)]).map (entS R)) (by simp [valS, entS, vecB]) ?_
    repeat (first | refine g_op rfl ?_ | refine g_then ?_ | refine g_nil ?_ | refine g_region ?_ | refine g_opS rfl ?_ | refine g_inBlock ?_ | refine g_add rfl (by omega) (by omega) ?_)
    refine g_next (a', c', ins ++ [(⟨some ⟨pr, 0, none⟩, R, List.replicate R false⟩ : RowB)]) ⟨by simp; omega, fun r hr => ?_⟩ (by simp; omega) ?_ (List.Sublist.refl _)
    · rcases List.mem_append.1 hr with hr | hr
      · exact hall r hr
      · simp only [List.mem_singleton] at hr; subst hr; rfl
    · simp only [List.length_append, List.length_singleton, Int.natCast_add]
      exact (by repeat (first | exact trivial | refine ⟨rfl, ?_⟩))
  have hge : ins.length = n := by have := h1; simp at this; omega
  have hL0 : LiveI R bl ins := by
    have hno : ∀ b r, ¬ inOf (ins.map (·.l)) b r := fun b r ⟨s, hs, h⟩ => by
      rw [List.getElem?_map] at hs
      obtain ⟨q, hq, rfl⟩ := Option.map_eq_some_iff.1 hs
      rw [hall q (List.mem_of_getElem? hq)] at h
      unfold has at h
      rw [List.getElem?_replicate] at h
      split at h <;> simp at h
    exact ⟨by omega, fun r hr => by rw [hall r hr]; simp, fun b r h => absurd h (hno b r), fun b r h => absurd h (hno b r)⟩
  rw [hge]
  repeat (first | refine g_op rfl ?_ | refine g_then ?_ | refine g_nil ?_ | refine g_region ?_ | refine g_seq ?_ | refine g_block ?_ | refine g_exit ?_ | refine g_thenExit ?_ | refine g_exitHere ?_)
  refine g_nilVec 107 1 ?_
  clear hall
  refine g_loopD (fun x : Bool × List RowB × (Option Addr × Nat × List RowB) × List Nat => dsOf x.2.2.2) (fun x => LiveI R bl x.2.1 ∧ (x.1 = false → AllR R bl x.2.1 x.2.2.1.2.2)) (fun x => [(5, .bool x.1), (2, .slice ia n ic), (3, .slice x.2.2.1.1 x.2.2.1.2.2.length x.2.2.1.2.1), (4, .slice aa an ac), (1, .pointer (some ⟨p1, 0, none⟩))])
    (fun x => ⟨fp, fun w => SlAt w (.slice aa an ac) 1 (aheadL bl) RowV⟩ :: Ent.box p1 [nm, pa, .int .i64 R, .slice ba n bc] 35 :: Ent.vec ia n ic 107 1 (x.2.1.map (valS R)) :: Ent.vec x.2.2.1.1 x.2.2.1.2.2.length x.2.2.1.2.1 107 1 (x.2.2.1.2.2.map (valS R)) :: (x.2.1.map (entS R) ++ (x.2.2.1.2.2.map (entS R) ++ marks x.2.2.2))) (fun x => missing x.2.1 * 2 + (if x.1 then 1 else 0)) (true, ins, (none, 0, []), []) rfl ⟨hL0, by simp⟩ ?_ fun x ⟨hL, hA⟩ => ?_
  · refine g_permH (H1 := ⟨fp, fun w => SlAt w (.slice aa an ac) 1 (aheadL bl) RowV⟩ :: Ent.box p1 [nm, pa, .int .i64 R, .slice ba n bc] 35 :: Ent.vec ia n ic 107 1 (ins.map (valS R)) :: Ent.vec none 0 0 107 1 [] :: ins.map (entS R)) ?_ ?_
    · exact (List.perm_middle (l₁ := [⟨fp, fun w => SlAt w (.slice aa an ac) 1 (aheadL bl) RowV⟩, Ent.box p1 [nm, pa, .int .i64 R, .slice ba n bc] 35, Ent.vec ia n ic 107 1 (ins.map (valS R))]) (a := Ent.vec none 0 0 107 1 []) (l₂ := ins.map (entS R))).symm
    · exact g_done (by repeat (first | exact trivial | refine ⟨rfl, ?_⟩)) (by simp [marks])
  clear hL0 hge hi h1
  obtain ⟨more, ins, ⟨oa, oc, outs⟩, Ds⟩ := x
  simp only at hL hA ⊢
  cases more
  case false =>
    have hA := hA rfl
    have hon : outs.length = n := by rw [hA.outLen, hn]
    repeat (first | refine g_op rfl ?_ | refine g_then ?_ | refine g_nil ?_ | refine g_region ?_ | refine g_seq ?_ | refine g_opS rfl ?_ | refine g_condF ?_ | refine g_exit ?_ | refine g_thenExit ?_ | refine g_exitHere ?_ | refine g_ret ?_)
    refine g_eqH (H1 := (⟨fp, fun w => SlAt w (.slice aa an ac) 1 (aheadL bl) RowV⟩ :: Ent.box p1 [nm, pa, .int .i64 R, .slice ba n bc] 35 :: Ent.vec ia n ic 107 1 (ins.map (valS R)) :: Ent.vec oa outs.length oc 107 1 (outs.map (valS R)) :: (ins.map (entS R) ++ outs.map (entS R))) ++ marks Ds) (by simp [List.append_assoc]) ?_
    refine g_permH List.perm_append_comm ?_
    refine g_retMs2 rfl fun w hw => ⟨((ia, ic, ins), (oa, oc, outs)), ?_, ?_, hA⟩
    · rw [hon]
    · rw [hon] at hw
      exact hw.sub (List.Sublist.cons _ (List.Sublist.cons _ (List.Sublist.refl _)))
  clear hA
  repeat (first | refine g_op rfl ?_ | refine g_then ?_ | refine g_nil ?_ | refine g_region ?_ | refine g_seq ?_ | refine g_opS rfl ?_ | refine g_block ?_ | refine g_skip ?_ | refine g_condT ?_)
  refine g_nilVec 107 1 ?_
  refine g_loopD (fun x : Bool × List RowB × (Option Addr × Nat × List RowB) × List Nat => dsOf x.2.2.2) (fun x => x.2.2.1.2.2.length ≤ n ∧ LiveI R bl x.2.1 ∧ (∀ r ∈ x.2.2.1.2.2, r.l.length = R) ∧ (x.1 = false → x.2.1 = ins ∧ (∀ b, b < x.2.2.1.2.2.length → ∀ r, Head bl (inOf (ins.map (·.l))) b r → inOf (ins.map (·.l)) b r) ∧ ∀ b q r, x.2.2.1.2.2[b]? = some q → (has q.l r ↔ Beh bl (inOf (ins.map (·.l))) b r)) ∧ (x.1 = true → missing x.2.1 < missing ins))
    (fun x => [(30, .int .i64 x.2.2.1.2.2.length), (29, .int .i64 n), (5, .bool x.1), (2, .slice ia n ic), (3, .slice x.2.2.1.1 x.2.2.1.2.2.length x.2.2.1.2.1), (4, .slice aa an ac), (1, .pointer (some ⟨p1, 0, none⟩))])
    (fun x => ⟨fp, fun w => SlAt w (.slice aa an ac) 1 (aheadL bl) RowV⟩ :: Ent.box p1 [nm, pa, .int .i64 R, .slice ba n bc] 35 :: Ent.vec ia n ic 107 1 (x.2.1.map (valS R)) :: Ent.vec x.2.2.1.1 x.2.2.1.2.2.length x.2.2.1.2.1 107 1 (x.2.2.1.2.2.map (valS R)) :: (x.2.1.map (entS R) ++ (x.2.2.1.2.2.map (entS R) ++ marks x.2.2.2))) (fun x => n - x.2.2.1.2.2.length) (false, ins, (none, 0, []), Ds) rfl ⟨Nat.zero_le _, hL, by simp, fun _ => ⟨rfl, by simp, by simp⟩, by simp⟩ ?_ fun x ⟨hob, hL', hor, hno, hyes⟩ => ?_
  · refine g_permH (H1 := ⟨fp, fun w => SlAt w (.slice aa an ac) 1 (aheadL bl) RowV⟩ :: Ent.box p1 [nm, pa, .int .i64 R, .slice ba n bc] 35 :: Ent.vec ia n ic 107 1 (ins.map (valS R)) :: Ent.vec none 0 0 107 1 [] :: Ent.vec oa outs.length oc 107 1 (outs.map (valS R)) :: (ins.map (entS R) ++ (outs.map (entS R) ++ marks Ds))) ?_ ?_
    · exact (List.perm_middle (l₁ := [⟨fp, fun w => SlAt w (.slice aa an ac) 1 (aheadL bl) RowV⟩, Ent.box p1 [nm, pa, .int .i64 R, .slice ba n bc] 35, Ent.vec ia n ic 107 1 (ins.map (valS R))]) (a := Ent.vec none 0 0 107 1 [])).symm
    · refine g_done (by repeat (first | exact trivial | refine ⟨rfl, ?_⟩)) ?_
      exact List.Sublist.cons_cons _ (List.Sublist.cons_cons _ (List.Sublist.cons_cons _ (List.Sublist.cons_cons _ (List.Sublist.cons _ (List.Sublist.append_left (List.sublist_append_right _ _) _)))))
  obtain ⟨more', ins', ⟨oa, oc, outs'⟩, Ds⟩ := x
  simp only at hob hL' hor hno hyes ⊢
  repeat (first | refine g_op rfl ?_ | refine g_then ?_ | refine g_nil ?_ | refine g_region ?_ | refine g_seq ?_)
  refine g_cond (fun h2 => ?_) (fun h2 => ?_)
  case refine_2 =>
    have hge2 : outs'.length = n := by have := h2; simp at this; omega
    repeat (first | refine g_then ?_ | refine g_inBlock ?_ | refine g_exit ?_ | refine g_thenExit ?_ | refine g_exitHere ?_)
    refine g_nextD (more', ins', (oa, oc, outs'), Ds) rfl ⟨hL', fun e => ?_⟩ ?_ (by repeat (first | exact trivial | refine ⟨rfl, ?_⟩)) (List.Sublist.refl _)
    · obtain ⟨e1, e2, e3⟩ := hno e
      subst e1
      refine allR_of hL' ?_ hor (fun b hb r h => e2 b (by omega) r h) e3
      show outs'.length = bl.length
      omega
    · cases more'
      · obtain ⟨e1, _⟩ := hno rfl
        subst e1
        simp
      · have := hyes rfl
        simp; omega
  have hbn : outs'.length < n := by simpa using h2
  generalize hbb : outs'.length = b at hbn h2
  repeat (first | refine g_op rfl ?_ | refine g_then ?_ | refine g_nil ?_ | refine g_region ?_ | refine g_seq ?_ | refine g_block ?_ | refine g_skip ?_)
  obtain ⟨B, hB⟩ := get_lt hn hbn
  have hBL : b < bl.length := by omega
  have had : AddrIs ba bb bo' := ⟨hba (ne_of_get hB)⟩
  have hli : LtIs b n := ⟨hbn⟩
  obtain ⟨cs, hcs, pv', lv, tv, rfl, _, _, hphis, hlv, ht⟩ := hel b B hB
  obtain ⟨xa, xn, xc, xb, xo, rfl, hxn, hxnc, hxnb, hxc, hxa, hxel⟩ := hphis
  obtain ⟨la, ln, lc, lb, lo, rfl, hln, hlnc, hlnb, hlc, hla, hlel⟩ := hlv
  obtain ⟨ta, tn, tc, _, _, rfl, _⟩ := ht
  have hci : CellsIs w0 bb (bo' + b * 6) _ := ⟨hcs⟩
  have hBo := hf.block b B hB
  have hil : ins'.length = n := by rw [hL'.len, hn]
  obtain ⟨q0, hq0⟩ : ∃ q0, ins'[b]? = some q0 := ⟨_, List.getElem?_eq_getElem (by omega)⟩
  -- behind the block
  refine g_callE (val := fun x : Nat × List Bool => .slice (some ⟨x.1, 0, none⟩) R R) (E := fun x => [vecB (some ⟨x.1, 0, none⟩) R R x.2]) (φ := fun x => x.2.length = R ∧ ∀ r, has x.2 r ↔ Beh bl (inOf (ins'.map (·.l))) b r) rfl
    (fun w hw => behindOf_c nm pa R hR bl _ b (ins'.map (·.l)) aa ia an ac ic w (hbs0.keep keeps_block hw.chg) n hn hf hBL (by rw [List.length_map, hil, hn]) (fun s hs => by obtain ⟨q, hq, rfl⟩ := List.mem_map.1 hs; exact hL'.row q hq) (hw.get (k := 0) rfl) (sets_sl (e := 107) (H := outs'.map (entS R) ++ marks Ds) (hw.sub (List.Sublist.cons _ (List.Sublist.cons _ (List.Sublist.cons_cons _ (List.Sublist.cons _ (List.Sublist.refl _)))))) hil.symm (by omega) (by omega) hL'.row)) fun x hx => ?_
  obtain ⟨po, s0⟩ := x
  simp only [List.cons_append, List.nil_append] at hx ⊢
  unfold vecB
  repeat (refine g_build1 rfl rfl fun _ _ => ?_)
  rename_i bt _
  refine g_append rfl rfl (by omega) (by omega) fun oa' oc' => ?_
  repeat (first | refine g_op rfl ?_ | refine g_then ?_ | refine g_nil ?_ | refine g_region ?_ | refine g_seq ?_ | refine g_opS rfl ?_)
  refine g_vec 5 rfl (by omega) fun ob oo hoa => ?_
  subst hoa
  refine g_vec 4 rfl (by omega) fun ib io hia => ?_
  subst hia
  have hxo : XAt (outs'.map (valS R) ++ [.slice (some ⟨po, 0, none⟩) R R]) (b * 1) (.slice (some ⟨po, 0, none⟩) R R) := ⟨by rw [Nat.mul_one, List.getElem?_append_right (by simp; omega)]; simp [hbb]⟩
  have hlb1 : LtIs b (b + 1) := ⟨by omega⟩
  repeat (refine g_op rfl ?_)
  refine g_callE (val := fun x : Option Addr × Nat => .slice x.1 R x.2) (E := fun x => [vecB x.1 R x.2 s0]) (φ := fun _ => True) rfl (fun w hw => cloneB_c _ R R s0 (by omega) w (bools_sl hw (k := 1) rfl hx.1.symm (by omega))) fun x _ => ?_
  obtain ⟨ca, cc⟩ := x
  simp only [List.cons_append, List.nil_append]
  repeat (first | refine g_then ?_ | refine g_nil ?_ | refine g_seq ?_ | refine g_store ?_ | refine g_alloc rfl fun _ _ => ?_)
  rename_i p7 _
  refine g_drawW [(7, .pointer (some ⟨p7, 0, none⟩)), (6, .int .i64 b), (30, .int .i64 b), (29, .int .i64 n), (5, .bool more'), (2, .slice (some ⟨ib, io, none⟩) n ic), (3, .slice (some ⟨ob, oo, none⟩) (b + 1) oc'), (4, .slice aa an ac), (1, .pointer (some ⟨p1, 0, none⟩))] (vecB ca R cc (takeV s0 B.on) :: Ent.box p7 [.slice ca R cc] 107 :: Ent.vec (some ⟨bt, 0, none⟩) 1 1 107 1 [.slice (some ⟨po, 0, none⟩) R R] :: Ent.vec (some ⟨po, 0, none⟩) R R 4 1 (s0.map .bool) :: ⟨fp, fun w => SlAt w (.slice aa an ac) 1 (aheadL bl) RowV⟩ :: Ent.box p1 [nm, pa, .int .i64 R, .slice ba n bc] 35 :: (Ent.vec (some ⟨ib, io, none⟩) n ic 107 1 (ins'.map (valS R)) :: Ent.vec (some ⟨ob, oo, none⟩) (b + 1) oc' 107 1 (outs'.map (valS R) ++ [.slice (some ⟨po, 0, none⟩) R R]) :: (ins'.map (entS R) ++ (outs'.map (entS R) ++ marks Ds)))) mixed ?_ ?_
  · repeat' (first | refine g_take 1 rfl (by decide +kernel) ?_ | refine g_take 3 rfl (by decide +kernel) ?_ | refine g_take 4 rfl (by decide +kernel) ?_ | refine g_take 5 rfl (by decide +kernel) ?_ | refine g_take 6 rfl (by decide +kernel) ?_ | refine g_any (by decide +kernel) ?_ | refine any_nil | refine any_skip (by decide +kernel) ?_ | refine any_cons ?_ ?_ | refine g_op rfl ?_ | refine g_then ?_ | refine g_nil ?_)
    all_goals
      refine g_permH (List.Perm.swap _ _ _) ?_
      refine g_eqH (H1 := [vecB ca R cc s0] ++ (Ent.box p7 [.slice ca R cc] 107 :: Ent.vec (some ⟨bt, 0, none⟩) 1 1 107 1 [.slice (some ⟨po, 0, none⟩) R R] :: Ent.vec (some ⟨po, 0, none⟩) R R 4 1 (s0.map .bool) :: ⟨fp, fun w => SlAt w (.slice aa an ac) 1 (aheadL bl) RowV⟩ :: Ent.box p1 [nm, pa, .int .i64 R, .slice ba n bc] 35 :: (Ent.vec (some ⟨ib, io, none⟩) n ic 107 1 (ins'.map (valS R)) :: Ent.vec (some ⟨ob, oo, none⟩) (b + 1) oc' 107 1 (outs'.map (valS R) ++ [.slice (some ⟨po, 0, none⟩) R R]) :: (ins'.map (entS R) ++ (outs'.map (entS R) ++ marks Ds))))) rfl ?_
      refine g_callS (val := fun _ : Unit => .tuple #[]) (E := fun _ => [vecB ca R cc (takeV s0 B.on)]) (φ := fun _ => True) rfl (fun w hw => take_c ca R cc s0 hx.1 B.on hBo.on w hw.pre) fun _ _ => ?_
      simp only [List.cons_append, List.nil_append]
      repeat' (first | refine g_any0 (by decide +kernel) ?_ | refine g_then ?_ | refine g_nil ?_)
      exact g_done (by repeat (first | exact trivial | refine ⟨rfl, ?_⟩)) (List.Sublist.refl _)
  generalize hs1 : takeV s0 B.on = s1
  have hs1l : s1.length = R := by rw [← hs1, takeV_length]; exact hx.1
  repeat (first | refine g_op rfl ?_ | refine g_then ?_ | refine g_region ?_ | refine g_seq ?_)
  refine g_callE (val := fun p : Nat × Nat => .func (.func 114) #[] #[.pointer (some ⟨p.1, 0, none⟩)]) (E := fun p => [Ent.box p.1 [.slice la ln lc] p.2]) (φ := fun _ => True) rfl (fun w hw => backwardI_c _ ⟨_, _, _, rfl⟩ w) fun Bp _ => ?_
  obtain ⟨Bs, Bt⟩ := Bp
  simp only [List.cons_append, List.nil_append]
  repeat (first | refine g_then ?_ | refine g_nil ?_ | refine g_block ?_)
  obtain ⟨zs, xs, hzl, h8, hxs, hxm, hzc⟩ := insA_ex (R := R) (wz := w0) (a := la) (n := ln) (c := lc) hBo.list (hargs B (List.mem_of_getElem? hB)) hlel
  have hfold : ∀ s, xs.foldl (fun s y => insV s y.1.2.1) s = B.list.reverse.foldl insV s := fun s => by rw [← hxm, List.foldl_map]
  refine g_fix (L' := [(61, .func (.func 114) #[] #[.pointer (some ⟨Bs, 0, none⟩)]), (7, .pointer (some ⟨p7, 0, none⟩)), (6, .int .i64 b), (30, .int .i64 b), (29, .int .i64 n), (5, .bool more'), (2, .slice (some ⟨ib, io, none⟩) n ic), (3, .slice (some ⟨ob, oo, none⟩) (b + 1) oc'), (4, .slice aa an ac), (1, .pointer (some ⟨p1, 0, none⟩))]) (by repeat (first | exact trivial | refine ⟨rfl, ?_⟩)) (List.Sublist.refl _) ?_
  refine g_permH (List.Perm.swap _ _ _) ?_
  refine g_rangeB (α := InsA R w0) (gf := 114) (lb := [.pointer (some ⟨Bs, 0, none⟩)]) (Ent.box Bs [.slice la ln lc] Bt :: Ent.box p7 [.slice ca R cc] 107 :: Ent.vec (some ⟨bt, 0, none⟩) 1 1 107 1 [.slice (some ⟨po, 0, none⟩) R R] :: Ent.vec (some ⟨po, 0, none⟩) R R 4 1 (s0.map .bool) :: ⟨fp, fun w => SlAt w (.slice aa an ac) 1 (aheadL bl) RowV⟩ :: Ent.box p1 [nm, pa, .int .i64 R, .slice ba n bc] 35 :: (Ent.vec (some ⟨ib, io, none⟩) n ic 107 1 (ins'.map (valS R)) :: Ent.vec (some ⟨ob, oo, none⟩) (b + 1) oc' 107 1 (outs'.map (valS R) ++ [.slice (some ⟨po, 0, none⟩) R R]) :: (ins'.map (entS R) ++ (outs'.map (entS R) ++ marks Ds)))) (fun s : List Bool => [vecB ca R cc s]) s1 (fun s => ⟨by intro e he; simp only [List.mem_singleton] at he; subst he; unfold vecB; infer_instance⟩) (fun s s' b ⟨e, he, hb⟩ => ⟨vecB ca R cc s', by simp, by simp only [List.mem_singleton] at he; subst he; exact hb⟩) xs
    (encs := fun y => #[.int .i64 (InsA.enc y).1, .agg (InsA.enc y).2.toArray]) (Bs := Bs) (bcs := [.slice la ln lc]) (bt := Bt) (List.mem_cons_self ..)
    (fun w1 hw1 => ?_) (fun pre s => s = pre.foldl (fun s y => insV s y.1.2.1) s1) rfl (List.Sublist.refl _) (fun _ => rfl) (fun y => insC y.1.2.1 y.1.2.2) 114
    (fun y => [(63, .agg (insC y.1.2.1 y.1.2.2).toArray), (62, .int .i64 y.1.1), (7, .pointer (some ⟨p7, 0, none⟩)), (6, .int .i64 b), (30, .int .i64 b), (29, .int .i64 n), (5, .bool more'), (2, .slice (some ⟨ib, io, none⟩) n ic), (3, .slice (some ⟨ob, oo, none⟩) (b + 1) oc'), (4, .slice aa an ac), (1, .pointer (some ⟨p1, 0, none⟩))]) (fun y q => [(9, .pointer (some ⟨q, 0, none⟩)), (7, .pointer (some ⟨p7, 0, none⟩)), (6, .int .i64 b), (30, .int .i64 b), (29, .int .i64 n), (5, .bool more'), (2, .slice (some ⟨ib, io, none⟩) n ic), (3, .slice (some ⟨ob, oo, none⟩) (b + 1) oc'), (4, .slice aa an ac), (1, .pointer (some ⟨p1, 0, none⟩))]) (fun y a h => ?_) (fun l y s R' => ?_) (fun l pre y s q RR hI hlt => ?_) fun D s2 hD hI => ?_
  · have hownz : ∀ b', fps ([vecB ca R cc s1] ++ (Ent.box Bs [.slice la ln lc] Bt :: Ent.box p7 [.slice ca R cc] 107 :: Ent.vec (some ⟨bt, 0, none⟩) 1 1 107 1 [.slice (some ⟨po, 0, none⟩) R R] :: Ent.vec (some ⟨po, 0, none⟩) R R 4 1 (s0.map .bool) :: ⟨fp, fun w => SlAt w (.slice aa an ac) 1 (aheadL bl) RowV⟩ :: Ent.box p1 [nm, pa, .int .i64 R, .slice ba n bc] 35 :: (Ent.vec (some ⟨ib, io, none⟩) n ic 107 1 (ins'.map (valS R)) :: Ent.vec (some ⟨ob, oo, none⟩) (b + 1) oc' 107 1 (outs'.map (valS R) ++ [.slice (some ⟨po, 0, none⟩) R R]) :: (ins'.map (entS R) ++ (outs'.map (entS R) ++ marks Ds))))) b' → w0.heap.size ≤ b' := fun b' ⟨e, he, hb'⟩ => (hw1.own e he b' hb').1.elim (fun h => h.elim) id
    exact backInsStops (R := R) (wz := w0) (b := lb) (o := lo) (by omega) (fun hne => hla (fun e => hne (by rw [e] at hzl; exact List.eq_nil_of_length_eq_zero hzl))) (by have := (hlist B (List.mem_of_getElem? hB)).1; omega) h8 hzc (fun b' hb' h => by have := hownz b' h.1; omega) (fun h => h.2 rfl) hw1.chg (hw1.boxCells Bs 0 _ rfl) hxs
  · have h2 := ((h.to (L' := [(7, .pointer (some ⟨p7, 0, none⟩)), (6, .int .i64 b), (30, .int .i64 b), (29, .int .i64 n), (5, .bool more'), (2, .slice (some ⟨ib, io, none⟩) n ic), (3, .slice (some ⟨ob, oo, none⟩) (b + 1) oc'), (4, .slice aa an ac), (1, .pointer (some ⟨p1, 0, none⟩))]) (by repeat (first | exact trivial | refine ⟨rfl, ?_⟩))).putOk (d := 62) rfl (.int .i64 y.1.1)).putOk (d := 63) rfl (.agg (insC y.1.2.1 y.1.2.2).toArray)
    have e : (#[62, 63].zip #[Value.int .i64 (InsA.enc y).1, .agg (InsA.enc y).2.toArray]).foldl (fun (t : Array Value) (q : Tmp × Value) => t.setIfInBounds q.1 q.2) a.tmps = (a.tmps.setIfInBounds 62 (.int .i64 y.1.1)).setIfInBounds 63 (.agg (insC y.1.2.1 y.1.2.2).toArray) := by simp [InsA.enc]
    refine ⟨Eq.trans (congrArg Array.size e) h2.size, rfl, fun p hp => ?_⟩
    exact Eq.trans (congrArg (fun t : Array Value => t[p.1]?) e) (h2.slot p hp)
  · simp only [insC]
    repeat (first | refine g_then ?_ | refine g_nil ?_ | refine g_region ?_ | refine g_alloc rfl fun _ _ => ?_ | refine g_storeAgg ?_)
    exact g_doneP _ (by repeat (first | exact trivial | refine ⟨rfl, ?_⟩)) (List.Sublist.refl _)
  · obtain ⟨⟨i0, x, ⟨va, vn, vc⟩⟩, hxo, hxa, hxs2⟩ := y
    simp only at hxo hxa hxs2
    have hsl2 : s.length = R := by
      rw [hI]
      have : ∀ (l : List (InsA R w0)) (s : List Bool), (l.foldl (fun s y => insV s y.1.2.1) s).length = s.length := by
        intro l
        induction l with
        | nil => exact fun _ => rfl
        | cons y l ih => exact fun s => by rw [List.foldl_cons, ih, insV_length]
      rw [this, hs1l]
    simp only [insC, List.cons_append, List.nil_append]
    repeat (first | refine g_op rfl ?_ | refine g_region ?_ | refine g_block ?_)
    refine g_permH (List.perm_middle (l₁ := [RR, Ent.box q (insC x (va, vn, vc)) 114]) (a := vecB ca R cc s)) ?_
    refine g_eqH (H1 := [vecB ca R cc s] ++ (RR :: Ent.box q (insC x (va, vn, vc)) 114 :: Ent.box Bs [.slice la ln lc] Bt :: Ent.box p7 [.slice ca R cc] 107 :: Ent.vec (some ⟨bt, 0, none⟩) 1 1 107 1 [.slice (some ⟨po, 0, none⟩) R R] :: Ent.vec (some ⟨po, 0, none⟩) R R 4 1 (s0.map .bool) :: ⟨fp, fun w => SlAt w (.slice aa an ac) 1 (aheadL bl) RowV⟩ :: Ent.box p1 [nm, pa, .int .i64 R, .slice ba n bc] 35 :: (Ent.vec (some ⟨ib, io, none⟩) n ic 107 1 (ins'.map (valS R)) :: Ent.vec (some ⟨ob, oo, none⟩) (b + 1) oc' 107 1 (outs'.map (valS R) ++ [.slice (some ⟨po, 0, none⟩) R R]) :: (ins'.map (entS R) ++ (outs'.map (entS R) ++ marks Ds))))) rfl ?_
    refine g_callS (val := fun _ : Unit => .tuple #[]) (E := fun _ => [vecB ca R cc (insV s x)]) (φ := fun _ => True) rfl (fun w hw => setAhead_c ca R cc s hsl2 x hxo (by omega) va vn vc w0 hxs2 w (hw.sub (List.sublist_append_left _ _))) fun _ _ => ?_
    simp only [List.cons_append, List.nil_append]
    repeat (first | refine g_then ?_ | refine g_nil ?_ | refine g_inBlock ?_)
    refine g_permH (List.Perm.swap _ _ _) ?_
    refine g_rnd (insV s x) ?_ (List.Sublist.refl _)
    rw [List.foldl_append, ← hI]; rfl
  rw [hfold] at hI
  have hs2l : s2.length = R := by
    rw [hI]
    have : ∀ (l : List LIns) (s : List Bool), (l.foldl insV s).length = s.length := by
      intro l
      induction l with
      | nil => exact fun _ => rfl
      | cons y l ih => exact fun s => by rw [List.foldl_cons, ih, insV_length]
    rw [this, hs1l]
  simp only [List.cons_append, List.nil_append]
  repeat (first | refine g_op rfl ?_ | refine g_then ?_ | refine g_nil ?_ | refine g_region ?_ | refine g_seq ?_ | refine g_inBlock ?_ | refine g_block ?_)
  refine g_wd (H' := vecB ca R cc s2 :: Ent.box p7 [.slice ca R cc] 107 :: Ent.mark D :: Ent.vec (some ⟨po, 0, none⟩) R R 4 1 (s0.map .bool) :: ⟨fp, fun w => SlAt w (.slice aa an ac) 1 (aheadL bl) RowV⟩ :: Ent.box p1 [nm, pa, .int .i64 R, .slice ba n bc] 35 :: (Ent.vec (some ⟨ib, io, none⟩) n ic 107 1 (ins'.map (valS R)) :: Ent.vec (some ⟨ob, oo, none⟩) (b + 1) oc' 107 1 (outs'.map (valS R) ++ [.slice (some ⟨po, 0, none⟩) R R]) :: (ins'.map (entS R) ++ (outs'.map (entS R) ++ marks Ds)))) (fun w hw => ?_) ?_
  · refine (hw.sub (List.Sublist.cons_cons _ (List.Sublist.cons_cons _ (List.Sublist.cons _ (List.Sublist.cons_cons _ (List.Sublist.cons _ (List.Sublist.refl _))))))).perm ?_
    exact (List.perm_middle (l₁ := [vecB ca R cc s2, Ent.box p7 [.slice ca R cc] 107]) (a := Ent.mark D)).symm
  refine g_loop (fun (x : Nat × List Bool) => x.1 ≤ xn ∧ x.2.length = R ∧ x.2 = (B.phis.take x.1).foldl (fun s p => s.set p.dst.toNat false) s2) (fun x => [(74, .int .i64 x.1), (72, .slice xa xn xc), (73, .int .i64 xn), (7, .pointer (some ⟨p7, 0, none⟩)), (6, .int .i64 b), (30, .int .i64 b), (29, .int .i64 n), (5, .bool more'), (2, .slice (some ⟨ib, io, none⟩) n ic), (3, .slice (some ⟨ob, oo, none⟩) (b + 1) oc'), (4, .slice aa an ac), (1, .pointer (some ⟨p1, 0, none⟩))]) (fun x => vecB ca R cc x.2 :: Ent.box p7 [.slice ca R cc] 107 :: Ent.mark D :: Ent.vec (some ⟨po, 0, none⟩) R R 4 1 (s0.map .bool) :: ⟨fp, fun w => SlAt w (.slice aa an ac) 1 (aheadL bl) RowV⟩ :: Ent.box p1 [nm, pa, .int .i64 R, .slice ba n bc] 35 :: (Ent.vec (some ⟨ib, io, none⟩) n ic 107 1 (ins'.map (valS R)) :: Ent.vec (some ⟨ob, oo, none⟩) (b + 1) oc' 107 1 (outs'.map (valS R) ++ [.slice (some ⟨po, 0, none⟩) R R]) :: (ins'.map (entS R) ++ (outs'.map (entS R) ++ marks Ds)))) (fun x => xn - x.1) (0, s2)
    ⟨Nat.zero_le _, hs2l, by simp⟩ (g_done (by repeat (first | exact trivial | refine ⟨rfl, ?_⟩)) (List.Sublist.refl _)) fun x ⟨hm, hsl, hs⟩ => ?_
  · obtain ⟨m, s⟩ := x
    simp only at hm hsl hs ⊢
    repeat (first | refine g_op rfl ?_ | refine g_then ?_ | refine g_nil ?_ | refine g_region ?_ | refine g_seq ?_)
    refine g_cond (fun h3 => ?_) (fun h3 => ?_)
    · have hmlt : m < xn := by simpa using h3
      obtain ⟨p, hp⟩ := get_lt hxn hmlt
      have hadx : AddrIs xa xb xo := ⟨hxa (ne_of_get hp)⟩
      have hlm : LtIs m xn := ⟨hmlt⟩
      obtain ⟨csp, hcsp, sv, rfl, _, hsv⟩ := hxel m p hp
      have hciP : CellsIs w0 xb (xo + m * 2) _ := ⟨hcsp⟩
      have hpo := hBo.phis p (List.mem_of_getElem? hp)
      obtain ⟨s2a, s2n, s2c, _, _, rfl, _⟩ := hsv
      obtain ⟨d, hd⟩ : ∃ d : Nat, p.dst = d := ⟨p.dst.toNat, by have := hpo.dst; omega⟩
      have hdR : d < R := by have := hpo.dst; omega
      obtain ⟨y, hy⟩ : ∃ y, s[d]? = some y := ⟨_, List.getElem?_eq_getElem (by omega)⟩
      have hnd : NatIs p.dst d := ⟨hd⟩
      have hld : LtIs d R := ⟨hdR⟩
      have hey : ElAt s d y := ⟨hy⟩
      have hst : (B.phis.take (m + 1)).foldl (fun s p => s.set p.dst.toNat false) s2 = s.set d false := by
        rw [List.take_add_one, hp, List.foldl_append, ← hs, show d = p.dst.toNat by omega]; rfl
      unfold vecB
      refine g_vec 0 rfl (by omega) fun cb co hca => ?_
      subst hca
      repeat (first | refine g_op rfl ?_ | refine g_then ?_ | refine g_nil ?_ | refine g_region ?_ | refine g_seq ?_ | refine g_opS rfl ?_ | refine g_alloc rfl fun _ _ => ?_ | refine g_storeAgg ?_ | refine g_inBlock ?_ | refine g_block ?_ | refine g_skip ?_ | refine g_add rfl (by omega) (by omega) ?_ | refine g_storeV ?_)
      refine g_next (m + 1, s.set d false) ⟨hmlt, by simpa using hsl, hst.symm⟩ (by simp only; omega) (by repeat (first | exact trivial | refine ⟨rfl, ?_⟩)) ?_
      exact List.Sublist.cons _ (List.Sublist.refl _)
    · have hge3 : m = xn := by have := h3; simp at this; omega
      rw [hge3, hxn, List.take_length, hI, ← hs1] at hs
      have hs4 : s = headV B s0 := hs
      have hhead : ∀ r, has s r ↔ Head bl (inOf (ins'.map (·.l))) b r := fun r => by rw [hs4]; exact has_headV hf hB hx.1 hx.2 r
      have hq0l := hL'.row q0 (List.mem_of_getElem? hq0)
      have heq0 : ElAt ins' b q0 := ⟨hq0⟩
      unfold vecB
      repeat (first | refine g_then ?_ | refine g_seq ?_ | refine g_exit ?_ | refine g_thenExit ?_ | refine g_exitHere ?_)
      refine g_draw mixed (by kernel_rfl) ?_
      repeat (refine q_op rfl ?_)
      refine q_call rfl (fun w hw => equalB_c _ _ s q0.l w (bools_sl hw (k := 0) rfl hsl.symm (by omega)) (set_sl (R := R) (rs := ins') (E := [Ent.vec ca R cc 4 1 (s.map .bool), Ent.box p7 [.slice ca R cc] 107, Ent.mark D, Ent.vec (some ⟨po, 0, none⟩) R R 4 1 (s0.map .bool), ⟨fp, fun w => SlAt w (.slice aa an ac) 1 (aheadL bl) RowV⟩, Ent.box p1 [nm, pa, .int .i64 R, .slice ba n bc] 35, Ent.vec (some ⟨ib, io, none⟩) n ic 107 1 (ins'.map (valS R)), Ent.vec (some ⟨ob, oo, none⟩) (b + 1) oc' 107 1 (outs'.map (valS R) ++ [.slice (some ⟨po, 0, none⟩) R R])]) (H := outs'.map (entS R) ++ marks Ds) hw hq0 (by omega) hq0l)) ?_
      repeat (first | refine q_op rfl ?_ | refine q_nil ?_)
      repeat (refine g_then ?_)
      have hob2 : outs'.length + 1 = b + 1 := by omega
      have fin : ∀ (I : List RowB) (w : World), Wd NoS w0 (Ent.mark D :: Ent.vec (some ⟨po, 0, none⟩) R R 4 1 (s0.map .bool) :: ⟨fp, fun w => SlAt w (.slice aa an ac) 1 (aheadL bl) RowV⟩ :: Ent.box p1 [nm, pa, .int .i64 R, .slice ba n bc] 35 :: Ent.vec (some ⟨ib, io, none⟩) n ic 107 1 (I.map (valS R)) :: Ent.vec (some ⟨ob, oo, none⟩) (b + 1) oc' 107 1 (outs'.map (valS R) ++ [.slice (some ⟨po, 0, none⟩) R R]) :: (I.map (entS R) ++ (outs'.map (entS R) ++ marks Ds))) w →
          Wd NoS w0 (⟨fp, fun w => SlAt w (.slice aa an ac) 1 (aheadL bl) RowV⟩ :: Ent.box p1 [nm, pa, .int .i64 R, .slice ba n bc] 35 :: Ent.vec (some ⟨ib, io, none⟩) n ic 107 1 (I.map (valS R)) :: Ent.vec (some ⟨ob, oo, none⟩) (outs' ++ [(⟨some ⟨po, 0, none⟩, R, s0⟩ : RowB)]).length oc' 107 1 ((outs' ++ [(⟨some ⟨po, 0, none⟩, R, s0⟩ : RowB)]).map (valS R)) :: (I.map (entS R) ++ ((outs' ++ [(⟨some ⟨po, 0, none⟩, R, s0⟩ : RowB)]).map (entS R) ++ marks (D :: Ds)))) w := fun I w hw => by
        have h1 := hw.perm (perm_two (α := Ent) (Ent.mark D) (Ent.vec (some ⟨po, 0, none⟩) R R 4 1 (s0.map .bool)) (⟨fp, fun w => SlAt w (.slice aa an ac) 1 (aheadL bl) RowV⟩ :: Ent.box p1 [nm, pa, .int .i64 R, .slice ba n bc] 35 :: Ent.vec (some ⟨ib, io, none⟩) n ic 107 1 (I.map (valS R)) :: Ent.vec (some ⟨ob, oo, none⟩) (b + 1) oc' 107 1 (outs'.map (valS R) ++ [Value.slice (some ⟨po, 0, none⟩) R R]) :: I.map (entS R)) (outs'.map (entS R)) (marks Ds))
        have e : (outs' ++ [(⟨some ⟨po, 0, none⟩, R, s0⟩ : RowB)]).length = b + 1 := by simp; omega
        rw [e]
        simpa [valS, entS, vecB, marks, List.append_assoc] using h1
      have outs_row : ∀ r ∈ outs' ++ [(⟨some ⟨po, 0, none⟩, R, s0⟩ : RowB)], r.l.length = R := fun r hr => by
        rcases List.mem_append.1 hr with hr | hr
        · exact hor r hr
        · simp only [List.mem_singleton] at hr; subst hr; exact hx.1
      have hol : (outs' ++ [(⟨some ⟨po, 0, none⟩, R, s0⟩ : RowB)]).length = b + 1 := by simp; omega
      refine g_cond (fun h4 => ?_) (fun h4 => ?_)
      · -- more is in
        have hne : s ≠ q0.l := by simpa using h4
        have hlive := hL'.upd (b := b) (q := ⟨ca, cc, s⟩) (by omega) hsl hhead
        have hmiss : missing (ins'.set b ⟨ca, cc, s⟩) < missing ins' := by
          have h5 := missing_set (r' := (⟨ca, cc, s⟩ : RowB)) hq0
          have h6 := unseen_less (l := q0.l) (m := s) (by omega) (fun r hr => (hhead r).2 (hL'.pre b r ((inOf_get hq0).2 hr))) (Ne.symm hne)
          simp only at h5
          omega
        have hxs2 : XSet (ins'.map (valS R)) (b * 1) (.slice ca R cc) ((ins'.set b ⟨ca, cc, s⟩).map (valS R)) := ⟨by rw [Nat.mul_one, List.map_set]; rfl, by simp; omega⟩
        repeat (first | refine g_op rfl ?_ | refine g_then ?_ | refine g_nil ?_ | refine g_region ?_ | refine g_opS rfl ?_ | refine g_inBlock ?_ | refine g_add rfl (by omega) (by omega) ?_ | refine g_storeV ?_)
        refine g_wd (fun w hw => fin (ins'.set b ⟨ca, cc, s⟩) w ?_) ?_
        · have h7 := wd_put (e := entS R ⟨ca, cc, s⟩) (X := [Ent.box p7 [.slice ca R cc] 107, Ent.mark D, Ent.vec (some ⟨po, 0, none⟩) R R 4 1 (s0.map .bool), ⟨fp, fun w => SlAt w (.slice aa an ac) 1 (aheadL bl) RowV⟩, Ent.box p1 [nm, pa, .int .i64 R, .slice ba n bc] 35, Ent.vec (some ⟨ib, io, none⟩) n ic 107 1 ((ins'.set b ⟨ca, cc, s⟩).map (valS R)), Ent.vec (some ⟨ob, oo, none⟩) (b + 1) oc' 107 1 (outs'.map (valS R) ++ [.slice (some ⟨po, 0, none⟩) R R])]) (I := ins'.map (entS R)) (Y := outs'.map (entS R) ++ marks Ds) (b := b) hw (by rw [List.getElem?_map, hq0]; rfl)
          rw [← List.map_set] at h7
          exact h7.sub (List.sublist_cons_self _ _)
        refine g_nextD (true, ins'.set b ⟨ca, cc, s⟩, (some ⟨ob, oo, none⟩, oc', outs' ++ [(⟨some ⟨po, 0, none⟩, R, s0⟩ : RowB)]), D :: Ds) rfl ⟨by simp only; omega, hlive, outs_row, by simp, fun _ => ?_⟩ (by simp only; omega) ?_ (List.Sublist.refl _)
        · simp only
          cases more'
          · obtain ⟨e1, _⟩ := hno rfl
            subst e1
            exact hmiss
          · have := hyes rfl
            omega
        · simp only [hol]
          exact (by repeat (first | exact trivial | refine ⟨rfl, ?_⟩))
      · have heq : s = q0.l := by simpa using h4
        repeat (first | refine g_then ?_ | refine g_nil ?_ | refine g_region ?_ | refine g_opS rfl ?_ | refine g_inBlock ?_ | refine g_skip ?_ | refine g_add rfl (by omega) (by omega) ?_)
        refine g_wd (fun w hw => fin ins' w (hw.sub (List.Sublist.cons _ (List.Sublist.cons _ (List.Sublist.refl _))))) ?_
        refine g_nextD (more', ins', (some ⟨ob, oo, none⟩, oc', outs' ++ [(⟨some ⟨po, 0, none⟩, R, s0⟩ : RowB)]), D :: Ds) rfl ⟨by simp only; omega, hL', outs_row, fun e => ?_, hyes⟩ (by simp only; omega) ?_ (List.Sublist.refl _)
        · obtain ⟨e1, e2, e3⟩ := hno e
          subst e1
          refine ⟨rfl, fun t ht r hr => ?_, fun t q r hq => ?_⟩
          · simp only [hol] at ht
            by_cases e : t = b
            · subst e
              rw [inOf_get hq0, ← heq]
              exact (hhead r).2 hr
            · exact e2 t (by omega) r hr
          · simp only at hq
            by_cases e : t < outs'.length
            · rw [List.getElem?_append_left e] at hq
              exact e3 t q r hq
            · have ht : t = b := by
                have := (List.getElem?_eq_some_iff.1 hq).1
                rw [hol] at this
                omega
              subst ht
              rw [List.getElem?_append_right (by omega), hbb, Nat.sub_self] at hq
              simp only [List.getElem?_cons_zero, Option.some.injEq] at hq
              subst hq
              exact hx.2 r
        · simp only [hol]
          exact (by repeat (first | exact trivial | refine ⟨rfl, ?_⟩))
end Go.Proofs.YtebajiafdkokjaaDoor

/- The document's way to live registers: takes, come, Live, LiveAt. What each returns. -/
namespace Go.Proofs.YtebajiafdkokjaaDoor
open Go Go.RowKit
attribute [local irreducible] wpListIn Code.wpIn Exit.then Exit.inBlock bodyPost wpQuiet wpAnyIn
set_option maxHeartbeats 4000000

theorem takes_c (nm pa re : Value) (R : Nat) (bl : List LBlock) (bs : Value) (hbsl : ∃ a n c, bs = .slice a n c) (t b r : Nat) (w0 : World) (hbs : SlAt w0 bs 6 bl BlockV) (hlen : bl.length ≤ 100) (hf : FuncOk R bl) (ht : t < bl.length) (hb : b < bl.length) (hbt : (t : Int) ∈ toOf bl b) :
    RetV Tryd.prog 111 [.agg #[nm, pa, re, bs], .int .i64 t, .int .i64 b, .int .i64 r] w0 (.bool (takesR bl t b r)) := by
  have hbs0 := hbs
  have hpm := preds_mem hb hbt
  obtain ⟨ba, n, bc, bb, bo', rfl, hn, hnc, hnb, hbc, hba, hel⟩ := hbs
  have hpl : (preds bl t).length ≤ bl.length := by
    have := List.length_filter_le (fun i => decide ((t : Int) ∈ toOf bl i)) (List.range bl.length)
    rwa [List.length_range] at this
  refine ret_enter Tryd.func111 rfl Tryd.ntmps111 rfl (Wd.nil NoS w0) ?_
  repeat (first | refine g_op rfl ?_ | refine g_then ?_ | refine g_nil ?_ | refine g_region ?_ | refine g_seq ?_ | refine g_box rfl fun _ _ => ?_)
  rename_i p4 _
  refine g_callE (val := fun x : Option Addr × Nat => .slice x.1 (preds bl t).length x.2) (E := fun x => [Ent.vec x.1 (preds bl t).length x.2 3 1 ((preds bl t).map intN)]) (φ := fun _ => True) rfl (fun w hw => refAhead_c _ _ _ bl _ t w (hbs0.keep keeps_block hw.chg) hlen) fun x _ => ?_
  obtain ⟨xa, xc⟩ := x
  simp only [List.cons_append, List.nil_append]
  repeat (refine g_op rfl ?_)
  refine g_callV rfl (fun w hw => place_c _ (preds bl t) b w hpm (ints_sl hw (k := 0) rfl rfl (by omega) fun y hy => by have := (List.mem_filter.1 hy).1; have : y < _ := List.mem_range.1 this; omega)) ?_
  have hidx : (preds bl t).idxOf b < (preds bl t).length := List.idxOf_lt_length_of_mem hpm
  obtain ⟨T, hT⟩ := get_lt hn (show t < n by omega)
  have had : AddrIs ba bb bo' := ⟨hba (ne_of_get hT)⟩
  have hlt : LtIs t n := ⟨by omega⟩
  obtain ⟨cs, hcs, pv, lv, tv, rfl, _, _, hphis, _, _⟩ := hel t T hT
  obtain ⟨xa2, xn, xc2, xb, xo, rfl, hxn, hxnc, hxnb, hxc, hxa, hxel⟩ := hphis
  have hci : CellsIs w0 bb (bo' + t * 6) _ := ⟨hcs⟩
  have hTo := hf.block t T hT
  have htk : takesR bl t b r = T.phis.any fun p => namesR [p.src[(preds bl t).idxOf b]?.getD noV] r := by unfold takesR; rw [phisOf_get hT]
  rw [htk]
  generalize (preds bl t).idxOf b = ix at hidx
  repeat (first | refine g_op rfl ?_ | refine g_then ?_ | refine g_nil ?_ | refine g_region ?_ | refine g_seq ?_ | refine g_block ?_)
  refine g_loop (fun (i : Nat) => i ≤ xn ∧ (T.phis.take i).any (fun p => namesR [p.src[ix]?.getD noV] r) = false) (fun i => [(10, .int .i64 i), (9, .int .i64 (ix : Nat)), (4, .pointer (some ⟨p4, 0, none⟩)), (1, .int .i64 t), (3, .int .i64 r)]) (fun _ => [Ent.box p4 [nm, pa, re, .slice ba n bc] 35]) (fun i => xn - i) 0 ⟨Nat.zero_le _, by simp⟩ (g_done (by repeat (first | exact trivial | refine ⟨rfl, ?_⟩)) (by simp)) fun i ⟨hi, hall⟩ => ?_
  repeat (first | refine g_op rfl ?_ | refine g_then ?_ | refine g_nil ?_ | refine g_region ?_ | refine g_seq ?_)
  refine g_cond (fun h1 => ?_) (fun h1 => ?_)
  · have hilt : i < xn := by simpa using h1
    obtain ⟨p, hp⟩ := get_lt hxn hilt
    have hadx : AddrIs xa2 xb xo := ⟨hxa (ne_of_get hp)⟩
    have hli : LtIs i xn := ⟨hilt⟩
    obtain ⟨csp, hcsp, sv, rfl, _, hsv⟩ := hxel i p hp
    have hciP : CellsIs w0 xb (xo + i * 2) _ := ⟨hcsp⟩
    have hpo := hTo.phis p (List.mem_of_getElem? hp)
    obtain ⟨s2a, s2n, s2c, s2b, s2o, rfl, hs2n, _, _, _, hs2a, hs2el⟩ := hsv
    obtain ⟨v, hv⟩ : ∃ v, p.src[ix]? = some v := ⟨_, List.getElem?_eq_getElem (by rw [hpo.len]; exact hidx)⟩
    have hads : AddrIs s2a s2b s2o := ⟨hs2a (ne_of_get hv)⟩
    have hlix : LtIs ix s2n := ⟨by rw [hs2n, hpo.len]; exact hidx⟩
    obtain ⟨csv, hcsv, rfl, hvi⟩ := hs2el ix v hv
    have hciV : CellsIs w0 s2b (s2o + ix * 2) _ := ⟨hcsv⟩
    repeat (first | refine g_op rfl ?_ | refine g_then ?_ | refine g_region ?_ | refine g_seq ?_ | refine g_block ?_ | refine g_skip ?_ | refine g_build1 rfl rfl fun _ _ => ?_)
    refine g_callV rfl (fun w hw => names_c _ [v] r w (vals_sl hw (k := 0) (l := [v]) rfl rfl (by omega) (fun y hy => by simp only [List.mem_singleton] at hy; subst hy; exact hvi))) ?_
    have hnext : (T.phis.take (i + 1)).any (fun p => namesR [p.src[ix]?.getD noV] r) = namesR [v] r := by
      rw [List.take_add_one, hp, List.any_append, hall]
      simp [hv]
    have hall2 : namesR [v] r = true → (T.phis.any fun p => namesR [p.src[ix]?.getD noV] r) = true := fun h => by
      rw [List.any_eq_true]
      exact ⟨p, List.mem_of_getElem? hp, by rw [hv]; exact h⟩
    generalize namesR [v] r = q at hnext hall2
    cases q
    · repeat (first | refine g_op rfl ?_ | refine g_then ?_ | refine g_nil ?_ | refine g_region ?_ | refine g_opS rfl ?_ | refine g_inBlock ?_ | refine g_skip ?_ | refine g_condF ?_ | refine g_add rfl (by omega) (by omega) ?_)
      exact g_next (i + 1) ⟨hilt, hnext⟩ (by omega) (by repeat (first | exact trivial | refine ⟨rfl, ?_⟩)) (List.Sublist.cons _ (List.Sublist.refl _))
    · repeat (first | refine g_op rfl ?_ | refine g_then ?_ | refine g_nil ?_ | refine g_region ?_ | refine g_seq ?_ | refine g_condT ?_ | refine g_ret ?_ | refine g_thenRet ?_ | refine g_blockRet ?_)
      exact g_retV rfl (by rw [hall2 rfl])
  · have hge : i = xn := by have := h1; simp at this; omega
    repeat (first | refine g_op rfl ?_ | refine g_then ?_ | refine g_nil ?_ | refine g_region ?_ | refine g_seq ?_ | refine g_exit ?_ | refine g_thenExit ?_ | refine g_exitHere ?_ | refine g_ret ?_)
    refine g_retV rfl ?_
    rw [hge, hxn, List.take_length] at hall
    rw [hall]

abbrev Sp : Type := Nat × Int
def spotC (s : Sp) : List Value := [.int .i64 (s.1 : Int), .int .i64 s.2]
def vecS (a : Option Addr) (c : Nat) (l : List Sp) : Ent := Ent.vec a l.length c 57 2 (l.flatMap spotC)
theorem spots_at {l : List Sp} {i : Nat} {s : Sp} (h : l[i]? = some s) : XsAt (l.flatMap spotC) (i * 2) [.int .i64 (s.1 : Int), .int .i64 s.2] := ⟨fun j v hj => flat_at (g := spotC) (s := 2) (fun _ => rfl) l i s j v h hj⟩
def comeL (l : List Sp) (s : Sp) : List Sp := if s ∈ l then l else l ++ [s]
theorem come_c (a : Option Addr) (c : Nat) (l : List Sp) (hl : l.length ≤ 1000000) (s : Sp) (w : World) (hw : Wd (fps [vecS a c l]) w [vecS a c l] w) :
    Ret Tryd.prog 108 [.slice a l.length c, .agg #[.int .i64 (s.1 : Int), .int .i64 s.2]] w fun u w' => ∃ x : Option Addr × Nat, u = .slice x.1 (comeL l s).length x.2 ∧ Wd (fps [vecS a c l]) w [vecS x.1 x.2 (comeL l s)] w' ∧ True := by
  refine ret_enter Tryd.func108 rfl Tryd.ntmps108 rfl hw ?_
  generalize fps [vecS a c l] = SS
  unfold vecS
  repeat (first | refine g_op rfl ?_ | refine g_then ?_ | refine g_nil ?_ | refine g_region ?_ | refine g_seq ?_ | refine g_box rfl fun _ _ => ?_ | refine g_block ?_)
  rename_i p3 _
  refine g_loop (fun (x : Nat × Option Addr) => x.1 ≤ l.length ∧ s ∉ l.take x.1) (fun x => [(5, .int .i64 x.1), (0, .slice x.2 l.length c), (3, .pointer (some ⟨p3, 0, none⟩))]) (fun x => [Ent.box p3 [.int .i64 (s.1 : Int), .int .i64 s.2] 57, Ent.vec x.2 l.length c 57 2 (l.flatMap spotC)]) (fun x => l.length - x.1) (0, a) ⟨Nat.zero_le _, by simp⟩ (g_done (by repeat (first | exact trivial | refine ⟨rfl, ?_⟩)) (List.Sublist.refl _)) fun x ⟨hi, hall⟩ => ?_
  obtain ⟨i, a⟩ := x
  simp only at hi hall ⊢
  repeat (first | refine g_op rfl ?_ | refine g_then ?_ | refine g_nil ?_ | refine g_region ?_ | refine g_seq ?_)
  refine g_cond (fun h1 => ?_) (fun h1 => ?_)
  · have hlt : i < l.length := by simpa using h1
    obtain ⟨q, hq⟩ : ∃ q, l[i]? = some q := ⟨_, List.getElem?_eq_getElem hlt⟩
    refine g_vec 1 rfl (by omega) fun vb vo hva => ?_
    subst hva
    have hli : LtIs i l.length := ⟨hlt⟩
    have hsp := spots_at hq
    repeat (first | refine g_then ?_ | refine g_seq ?_ | refine g_block ?_ | refine g_skip ?_)
    refine g_draw mixed (by kernel_rfl) ?_
    repeat (first | refine q_op rfl ?_ | refine q_nil ?_)
    repeat (refine g_then ?_)
    refine g_cond (fun h2 => ?_) (fun h2 => ?_)
    · have hqs : q = s := by
        simp at h2
        exact Prod.ext (by have := h2.1; omega) h2.2
      have hc : comeL l s = l := if_pos (hqs ▸ List.mem_of_getElem? hq)
      rw [hc]
      repeat (first | refine g_op rfl ?_ | refine g_then ?_ | refine g_nil ?_ | refine g_region ?_ | refine g_seq ?_ | refine g_ret ?_ | refine g_thenRet ?_ | refine g_blockRet ?_)
      exact g_ret1 rfl fun w' hw' => ⟨(some ⟨vb, vo, none⟩, c), rfl, hw'.sel [1] (by decide), trivial⟩
    · repeat (first | refine g_op rfl ?_ | refine g_then ?_ | refine g_nil ?_ | refine g_region ?_ | refine g_opS rfl ?_ | refine g_inBlock ?_ | refine g_skip ?_ | refine g_add rfl (by omega) (by omega) ?_)
      refine g_next (i + 1, some ⟨vb, vo, none⟩) ⟨hlt, fun h => ?_⟩ (by simp only; omega) (by repeat (first | exact trivial | refine ⟨rfl, ?_⟩)) (List.Sublist.refl _)
      simp only at h
      rw [List.take_add_one, hq] at h
      rcases List.mem_append.1 h with h | h
      · exact hall h
      · simp only [Option.toList_some, List.mem_singleton] at h
        subst h
        simp at h2
  · have hge : i = l.length := by have := h1; simp at this; omega
    rw [hge, List.take_length] at hall
    have hc : comeL l s = l ++ [s] := if_neg hall
    rw [hc]
    repeat (first | refine g_op rfl ?_ | refine g_then ?_ | refine g_region ?_ | refine g_seq ?_ | refine g_exit ?_ | refine g_thenExit ?_ | refine g_exitHere ?_ | refine g_build1 rfl rfl fun _ _ => ?_)
    refine g_append rfl rfl (by omega) (by omega) fun a' c' => ?_
    rw [show l.flatMap spotC ++ [.int .i64 (s.1 : Int), .int .i64 s.2] = (l ++ [s]).flatMap spotC by simp [spotC], show l.length + 1 = (l ++ [s]).length by simp]
    repeat (first | refine g_op rfl ?_ | refine g_then ?_ | refine g_nil ?_ | refine g_ret ?_)
    exact g_ret1 rfl fun w' hw' => ⟨(a', c'), rfl, hw'.sel [2] (by decide), trivial⟩
end Go.Proofs.YtebajiafdkokjaaDoor
