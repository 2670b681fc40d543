/- Texts joined: LiveL OnceP QuietB Given DoA DoB. -/
import Derived.Test.YtbmnkjaelfjlhaaDoorGB
import Derived.Test.YtbmnkjaelfjlhaaDoorGF
import Derived.Test.YtbmnkjaelfjlhaaDoorGG
import Derived.Test.YtbmnkjaelfjlhaaDoorGI
import Derived.Test.YtbmnkjaelfjlhaaDoorHA
import Derived.Test.YtbmnkjaelfjlhaaDoorHI
import Derived.Test.YtbmnkjaelfjlhaaDoorHJ
import Derived.Test.YtbmnkjaelfjlhaaDoorHN
import Derived.Test.YtbmnkjaelfjlhaaDoorHP
/- What is live within a block, told from its end on; slices.Reverse of rows. -/
namespace Go.Proofs.YtbmnkjaelfjlhaaDoor
open Go Go.RowKit
attribute [local irreducible] wpListIn Code.wpIn Exit.then Exit.inBlock bodyPost wpQuiet wpAnyIn wpAnyH
set_option maxHeartbeats 4000000

theorem live_len {bl : List LBlock} {b r : Nat} {B : LBlock} (hB : bl[b]? = some B) : LiveS bl r b B.list.length ↔ (namesR [B.on] r = true ∨ LiveS bl r b (B.list.length + 1)) := by
  constructor
  · intro h
    generalize hj : (B.list.length : Int) = j at h
    cases h with
    | phi => omega
    | use hB' hx => rw [hB] at hB'; cases hB'; have := (List.getElem?_eq_some_iff.1 hx).1; omega
    | go hB' hx => rw [hB] at hB'; cases hB'; have := (List.getElem?_eq_some_iff.1 hx).1; omega
    | on hB' hn => rw [hB] at hB'; cases hB'; exact .inl hn
    | take hB' _ ht hk => rw [hB] at hB'; cases hB'; exact .inr (.take hB (.inr (by omega)) ht hk)
    | jump hB' _ ht hk => rw [hB] at hB'; cases hB'; exact .inr (.jump hB (.inr (by omega)) ht hk)
  · rintro (h | h)
    · exact .on hB h
    · generalize hj : (B.list.length : Int) + 1 = j at h
      cases h with
      | phi => omega
      | use hB' hx => rw [hB] at hB'; cases hB'; have := (List.getElem?_eq_some_iff.1 hx).1; omega
      | go hB' hx => rw [hB] at hB'; cases hB'; have := (List.getElem?_eq_some_iff.1 hx).1; omega
      | on hB' => rw [hB] at hB'; cases hB'; omega
      | take hB' _ ht hk => rw [hB] at hB'; cases hB'; exact .take hB (.inl rfl) ht hk
      | jump hB' _ ht hk => rw [hB] at hB'; cases hB'; exact .jump hB (.inl rfl) ht hk
theorem live_ins {bl : List LBlock} {b r i : Nat} {B : LBlock} {x : LIns} (hB : bl[b]? = some B) (hx : B.list[i]? = some x) : LiveS bl r b i ↔ (namesR (usesOf x) r = true ∨ (x.dst ≠ r ∧ LiveS bl r b (i + 1 : Nat))) := by
  have hlt := (List.getElem?_eq_some_iff.1 hx).1
  constructor
  · intro h
    generalize hj : (i : Int) = j at h
    cases h with
    | phi => omega
    | @use _ i' _ _ hB' hx' hn =>
      rw [hB] at hB'; cases hB'
      have : i' = i := by omega
      subst this
      rw [hx] at hx'; cases hx'
      exact .inl hn
    | @go _ i' _ _ hB' hx' hd hl =>
      rw [hB] at hB'; cases hB'
      have : i' = i := by omega
      subst this
      rw [hx] at hx'; cases hx'
      exact .inr ⟨hd, hl⟩
    | on hB' => rw [hB] at hB'; cases hB'; omega
    | take hB' hj' => rw [hB] at hB'; cases hB'; omega
    | jump hB' hj' => rw [hB] at hB'; cases hB'; omega
  · rintro (h | ⟨h1, h2⟩)
    · exact .use hB hx h
    · exact .go hB hx h1 h2
instance (r : Row) : OneV (valR r) := ⟨rfl⟩
theorem rev_swapA {α : Type} {l l' : List α} {i j : Nat} {x y : α} (hl : l'.length = l.length) (hij : i < j) (hj : i + j + 1 = l.length) (h : ∀ k, k < l.length → l'[k]? = if k < i ∨ j < k then l[l.length - 1 - k]? else l[k]?) (hx : l'[i]? = some x) (hy : l'[j]? = some y) :
    ∀ k, k < l.length → ((l'.set i y).set j x)[k]? = if k < i + 1 ∨ j - 1 < k then l[l.length - 1 - k]? else l[k]? := by
  intro k hk
  have hi := h i (by omega)
  have hjj := h j (by omega)
  rw [if_neg (by omega), hx] at hi
  rw [if_neg (by omega), hy] at hjj
  rw [List.getElem?_set, List.getElem?_set]
  by_cases e1 : j = k
  · subst e1
    rw [if_pos rfl, if_pos (by simp; omega), if_pos (by omega), show l.length - 1 - j = i by omega, hi]
  · rw [if_neg e1]
    by_cases e2 : i = k
    · subst e2
      rw [if_pos rfl, if_pos (by omega), if_pos (by omega), show l.length - 1 - i = j by omega, hjj]
    · rw [if_neg e2, h k hk]
      by_cases e3 : k < i ∨ j < k
      · rw [if_pos e3, if_pos (by omega)]
      · rw [if_neg e3, if_neg (by omega)]
theorem rev_doneA {α : Type} {l l' : List α} {i : Nat} (hl : l'.length = l.length) (hi : l.length ≤ 2 * i + 1) (h : ∀ k, k < l.length → l'[k]? = if k < i ∨ (l.length : Int) - 1 - i < k then l[l.length - 1 - k]? else l[k]?) : l' = l.reverse := by
  apply List.ext_getElem?
  intro k
  by_cases hk : k < l.length
  · rw [h k hk, List.getElem?_reverse hk]
    by_cases e : k < i ∨ (l.length : Int) - 1 - i < k
    · rw [if_pos e]
    · rw [if_neg e, show l.length - 1 - k = k by omega]
  · rw [List.getElem?_eq_none (by omega), List.getElem?_eq_none (by rw [List.length_reverse]; omega)]
end Go.Proofs.YtbmnkjaelfjlhaaDoor


/- One going-through of live.Do, as a plain function: what it takes away nobody needs, and when it takes nothing away nothing more can go. No program in sight. -/
namespace Go.Proofs.YtbmnkjaelfjlhaaDoor
open Go Go.RowKit

def getB (s : List Bool) (d : Int) : Bool := s.getD d.toNat false
theorem getB_has {s : List Bool} {d : Int} {r : Nat} (hr : d = r) : getB s d = true ↔ has s r := by
  subst hr
  unfold getB has
  rw [Int.toNat_natCast, List.getD_eq_getElem?_getD]
  cases s[r]? with
  | none => simp
  | some b => simp
/-- what is kept of instructions, and what is live ahead of them, by what is live behind them -/
def keepL (W : Int) (s : List Bool) : List LIns → List Bool × List LIns
  | [] => (s, [])
  | x :: l => if quietI W x && !getB (keepL W s l).1 x.dst then keepL W s l else (insV (keepL W s l).1 x, x :: (keepL W s l).2)
theorem keepL_len (W : Int) (s : List Bool) : ∀ l : List LIns, (keepL W s l).1.length = s.length
  | [] => rfl
  | x :: l => by
    rw [keepL]
    split
    · exact keepL_len W s l
    · simp only; rw [insV_length]; exact keepL_len W s l
theorem keepL_sub (W : Int) (s : List Bool) : ∀ l : List LIns, (keepL W s l).2.Sublist l
  | [] => .refl _
  | x :: l => by
    rw [keepL]
    split
    · exact (keepL_sub W s l).cons _
    · exact (keepL_sub W s l).cons_cons _
/-- what is kept of a block, by what is live behind it -/
def onceB (W : Int) (s : List Bool) (B : LBlock) : LBlock :=
  { B with list := (keepL W (takeV s B.on) B.list).2, phis := B.phis.filter fun p => getB (keepL W (takeV s B.on) B.list).1 p.dst }
def goneB (W : Int) (s : List Bool) (B : LBlock) : Bool := decide ((onceB W s B).list.length < B.list.length) || decide ((onceB W s B).phis.length < B.phis.length)
theorem gone_not {W : Int} {s : List Bool} {B : LBlock} (h : goneB W s B = false) : onceB W s B = B := by
  unfold goneB at h
  simp only [Bool.or_eq_false_iff, decide_eq_false_iff_not] at h
  have h1 : (onceB W s B).list = B.list := (keepL_sub W _ B.list).eq_of_length_le (by have := h.1; unfold onceB at this; simp only at this; omega)
  have h2 : (onceB W s B).phis = B.phis := List.filter_sublist.eq_of_length_le (by have := h.2; unfold onceB at this; simp only at this; omega)
  have e : onceB W s B = { B with list := (onceB W s B).list, phis := (onceB W s B).phis } := rfl
  rw [e, h1, h2]
theorem set_self' {α : Type} {l : List α} {b : Nat} {x : α} (h : l[b]? = some x) : l.set b x = l := by
  apply List.ext_getElem?
  intro j
  rw [List.getElem?_set]
  by_cases e : b = j
  · subst e
    rw [if_pos rfl, if_pos (List.getElem?_eq_some_iff.1 h).1, h]
  · simp only [e, if_false]
theorem delI_set {cur : List LBlock} {b i : Nat} {B : LBlock} (hB : cur[b]? = some B) : delI cur b i = cur.set b (eI i B) := by
  apply List.ext_getElem?
  intro j
  rw [delI_get, List.getElem?_set]
  by_cases e : b = j
  · subst e
    rw [if_pos rfl, if_pos rfl, if_pos (List.getElem?_eq_some_iff.1 hB).1, hB]
    rfl
  · simp only [e, if_false]
theorem delP_set {cur : List LBlock} {b i : Nat} {B : LBlock} (hB : cur[b]? = some B) : delP cur b i = cur.set b (eP i B) := by
  apply List.ext_getElem?
  intro j
  rw [delP_get, List.getElem?_set]
  by_cases e : b = j
  · subst e
    rw [if_pos rfl, if_pos rfl, if_pos (List.getElem?_eq_some_iff.1 hB).1, hB]
    rfl
  · simp only [e, if_false]
theorem erase_mid {α : Type} (a : List α) (x : α) (b : List α) : (a ++ x :: b).eraseIdx a.length = a ++ b := by
  rw [List.eraseIdx_append_of_length_le (Nat.le_refl _), Nat.sub_self, List.eraseIdx_cons_zero]
theorem keep_cuts {W : Int} {R b : Nat} {s : List Bool} (hs : s.length = R) : ∀ (l pre : List LIns) (cur : List LBlock) (B : LBlock), cur[b]? = some B → B.list = pre ++ l → (∀ x ∈ B.list, InsOk R x) → (∀ r, LiveS cur r b B.list.length → has s r) →
    Cuts W cur (cur.set b { B with list := pre ++ (keepL W s l).2 }) ∧ ∀ r, LiveS (cur.set b { B with list := pre ++ (keepL W s l).2 }) r b pre.length → has (keepL W s l).1 r
  | [], pre, cur, B, hB, hl, _, h => by
    have e : ({ B with list := pre ++ (keepL W s []).2 } : LBlock) = B := by
      obtain ⟨p, q, k, o, t⟩ := B
      simp only at hl
      subst hl
      rfl
    rw [e, set_self' hB]
    exact ⟨.refl _, fun r hr => h r (by rw [hl, List.append_nil]; exact hr)⟩
  | x :: l, pre, cur, B, hB, hl, hok, h => by
    obtain ⟨h1, h2⟩ := keep_cuts hs l (pre ++ [x]) cur B hB (by rw [hl]; simp) hok h
    have hbl := (List.getElem?_eq_some_iff.1 hB).1
    have hx := hok x (by rw [hl]; simp)
    rw [List.append_assoc, List.singleton_append] at h1 h2
    rw [List.length_append, List.length_singleton] at h2
    generalize hcur : cur.set b { B with list := pre ++ x :: (keepL W s l).2 } = cur1 at h1 h2
    have hB1 : cur1[b]? = some { B with list := pre ++ x :: (keepL W s l).2 } := by rw [← hcur, List.getElem?_set, if_pos rfl, if_pos hbl]
    have hx1 : (pre ++ x :: (keepL W s l).2)[pre.length]? = some x := by simp
    rw [keepL]
    by_cases hd : (quietI W x && !getB (keepL W s l).1 x.dst) = true
    · rw [if_pos hd]
      simp only [Bool.and_eq_true, Bool.not_eq_true'] at hd
      have hdead : ∀ r : Nat, x.dst = r → ¬ LiveS cur1 r b (pre.length + 1 : Nat) := fun r hr hl => by
        have := (getB_has hr).2 (h2 r hl)
        rw [hd.2] at this
        cases this
      have hcut : Cut W cur1 (delI cur1 b pre.length) := .ins hB1 hx1 hd.1 hdead
      have e : delI cur1 b pre.length = cur.set b { B with list := pre ++ (keepL W s l).2 } := by
        rw [delI_set hB1, ← hcur, List.set_set]
        unfold eI
        simp only [erase_mid]
      refine ⟨h1.trans (.one (e ▸ hcut)), fun r hr => h2 r ?_⟩
      rw [← e] at hr
      exact ((delI_live hB1 hx1 hdead hr).2 rfl).2 (Int.le_refl _)
    · rw [if_neg hd]
      simp only
      rw [hcur]
      refine ⟨h1, fun r hr => ?_⟩
      rw [live_ins hB1 hx1] at hr
      rw [has_insV (by rw [keepL_len, hs]; exact hx), ← uses_vals hx]
      rcases hr with hr | ⟨h3, h4⟩
      · exact .inl hr
      · exact .inr ⟨h3, h2 r h4⟩
theorem phi_cuts {W : Int} {b : Nat} {s : List Bool} : ∀ (l pre : List LPhi) (cur : List LBlock) (B : LBlock), cur[b]? = some B → B.phis = pre ++ l → (∀ r, LiveS cur r b 0 → has s r) →
    Cuts W cur (cur.set b { B with phis := pre ++ l.filter fun p => getB s p.dst })
  | [], pre, cur, B, hB, hl, _ => by
    have e : ({ B with phis := pre ++ [].filter fun p : LPhi => getB s p.dst } : LBlock) = B := by
      obtain ⟨p, q, k, o, t⟩ := B
      simp only at hl
      subst hl
      rfl
    rw [e, set_self' hB]
    exact .refl _
  | p :: l, pre, cur, B, hB, hl, h => by
    have hbl := (List.getElem?_eq_some_iff.1 hB).1
    by_cases hd : getB s p.dst = true
    · rw [List.filter_cons_of_pos (p := fun q : LPhi => getB s q.dst) hd]
      have := phi_cuts (W := W) l (pre ++ [p]) cur B hB (by rw [hl]; simp) h
      rw [List.append_assoc, List.singleton_append] at this
      exact this
    · rw [List.filter_cons_of_neg (p := fun q : LPhi => getB s q.dst) hd]
      have hp : B.phis[pre.length]? = some p := by rw [hl]; simp
      have hdead : ∀ r : Nat, p.dst = r → ¬ LiveS cur r b 0 := fun r hr hl => hd ((getB_has hr).2 (h r hl))
      have hcut : Cut W cur (delP cur b pre.length) := .phi hB hp hdead
      have e1 : eP pre.length B = { B with phis := pre ++ l } := by unfold eP; rw [hl, erase_mid]
      have hB1 : (delP cur b pre.length)[b]? = some { B with phis := pre ++ l } := by rw [delP_get, if_pos rfl, hB, Option.map_some, e1]
      have := phi_cuts (W := W) l pre (delP cur b pre.length) _ hB1 rfl fun r hr => h r (delP_live hB hp hdead hr)
      refine .head hcut ?_
      have e2 : (delP cur b pre.length).set b { B with phis := pre ++ l.filter fun p => getB s p.dst } = cur.set b { B with phis := pre ++ l.filter fun p => getB s p.dst } := by rw [delP_set hB, List.set_set]
      rw [← e2]
      exact this
/-- a block's turn -/
theorem onceB_cuts {W : Int} {R b : Nat} {s : List Bool} (hs : s.length = R) {cur : List LBlock} {B : LBlock} (hB : cur[b]? = some B) (hok : ∀ x ∈ B.list, InsOk R x) (hon : ValOk R B.on) (h : ∀ r, LiveS cur r b (B.list.length + 1) → has s r) : Cuts W cur (cur.set b (onceB W s B)) := by
  have hbl := (List.getElem?_eq_some_iff.1 hB).1
  have h0 : ∀ r, LiveS cur r b B.list.length → has (takeV s B.on) r := fun r hr => by
    rw [live_len hB] at hr
    rw [has_takeV (by rw [hs]; exact hon)]
    rcases hr with hr | hr
    · unfold namesR at hr
      simp only [List.any_cons, List.any_nil, Bool.or_false, Bool.and_eq_true, decide_eq_true_eq] at hr
      exact .inr hr
    · exact .inl (h r hr)
  obtain ⟨h1, h2⟩ := keep_cuts (W := W) (R := R) (by rw [takeV_length]; exact hs) B.list [] cur B hB rfl hok h0
  simp only [List.nil_append] at h1 h2
  have hB1 : (cur.set b { B with list := (keepL W (takeV s B.on) B.list).2 })[b]? = some { B with list := (keepL W (takeV s B.on) B.list).2 } := by rw [List.getElem?_set, if_pos rfl, if_pos hbl]
  have h3 := phi_cuts (W := W) (s := (keepL W (takeV s B.on) B.list).1) B.phis [] _ _ hB1 rfl h2
  rw [List.set_set] at h3
  exact h1.trans h3
theorem keep_exact {W : Int} {R b : Nat} {s : List Bool} (hs : s.length = R) {cur : List LBlock} {B : LBlock} (hB : cur[b]? = some B) (hok : ∀ x ∈ B.list, InsOk R x) (h : ∀ r, has s r ↔ LiveS cur r b B.list.length) : ∀ (l pre : List LIns), B.list = pre ++ l → (keepL W s l).2 = l →
    (∀ r, has (keepL W s l).1 r ↔ LiveS cur r b pre.length) ∧ ∀ (i : Nat) x, pre.length ≤ i → B.list[i]? = some x → quietI W x = true → ∀ r : Nat, x.dst = r → LiveS cur r b (i + 1 : Nat)
  | [], pre, hl, _ => by
    rw [List.append_nil] at hl
    refine ⟨fun r => by rw [← hl]; exact h r, fun i x hi hx => ?_⟩
    have := (List.getElem?_eq_some_iff.1 hx).1
    rw [hl] at this
    omega
  | x :: l, pre, hl, he => by
    rw [keepL] at he ⊢
    have hd : ¬ (quietI W x && !getB (keepL W s l).1 x.dst) = true := fun hd => by
      rw [if_pos hd] at he
      have := (keepL_sub W s l).length_le
      rw [he] at this
      simp at this
      omega
    rw [if_neg hd] at he ⊢
    simp only [List.cons.injEq, true_and] at he
    obtain ⟨h1, h2⟩ := keep_exact hs hB hok h l (pre ++ [x]) (by rw [hl]; simp) he
    rw [List.length_append, List.length_singleton] at h1 h2
    have hx : B.list[pre.length]? = some x := by rw [hl]; simp
    have hxo := hok x (by rw [hl]; simp)
    refine ⟨fun r => ?_, fun i y hi hy hq r hr => ?_⟩
    · simp only
      rw [has_insV (by rw [keepL_len, hs]; exact hxo), ← uses_vals hxo, live_ins hB hx, h1 r]
    · by_cases e : i = pre.length
      · subst e
        rw [hx] at hy
        obtain rfl := Option.some.inj hy
        rw [hq, Bool.true_and] at hd
        exact (h1 r).1 ((getB_has hr).1 (by simpa using hd))
      · exact h2 i y (by omega) hy hq r hr
/-- where a block's turn takes nothing away nothing can go -/
theorem onceB_same {W : Int} {R b : Nat} {s : List Bool} (hs : s.length = R) {cur : List LBlock} {B : LBlock} (hB : cur[b]? = some B) (hok : ∀ x ∈ B.list, InsOk R x) (hon : ValOk R B.on) (h : ∀ r, has s r ↔ LiveS cur r b (B.list.length + 1)) (he : onceB W s B = B) :
    (∀ (i : Nat) x, B.list[i]? = some x → quietI W x = true → ∀ r : Nat, x.dst = r → LiveS cur r b (i + 1 : Nat)) ∧ ∀ p ∈ B.phis, ∀ r : Nat, p.dst = r → LiveS cur r b 0 := by
  have h0 : ∀ r, has (takeV s B.on) r ↔ LiveS cur r b B.list.length := fun r => by
    rw [live_len hB, has_takeV (by rw [hs]; exact hon), h r]
    unfold namesR
    simp only [List.any_cons, List.any_nil, Bool.or_false, Bool.and_eq_true, decide_eq_true_eq]
    exact or_comm
  have e1 : (keepL W (takeV s B.on) B.list).2 = B.list := by have := congrArg LBlock.list he; exact this
  have e2 : B.phis.filter (fun p => getB (keepL W (takeV s B.on) B.list).1 p.dst) = B.phis := by have := congrArg LBlock.phis he; exact this
  obtain ⟨h1, h2⟩ := keep_exact (W := W) (R := R) (by rw [takeV_length]; exact hs) hB hok h0 B.list [] rfl e1
  refine ⟨fun i x hx => h2 i x (Nat.zero_le _) hx, fun p hp r hr => ?_⟩
  rw [← e2] at hp
  exact (h1 r).1 ((getB_has hr).1 (List.mem_filter.1 hp).2)

/-! ### All blocks -/
/-- the first i blocks have had their turn -/
def onceTo (W : Int) (outs : List (List Bool)) (bl : List LBlock) (i : Nat) : List LBlock := bl.mapIdx fun b B => if b < i then onceB W (outs.getD b []) B else B
def goneTo (W : Int) (outs : List (List Bool)) (bl : List LBlock) (i : Nat) : Bool := (List.range i).any fun b => match bl[b]? with | some B => goneB W (outs.getD b []) B | none => false
theorem onceTo_get (W : Int) (outs : List (List Bool)) (bl : List LBlock) (i j : Nat) : (onceTo W outs bl i)[j]? = (bl[j]?).map fun B => if j < i then onceB W (outs.getD j []) B else B := by
  unfold onceTo
  rw [List.getElem?_mapIdx]
theorem onceTo_zero (W : Int) (outs : List (List Bool)) (bl : List LBlock) : onceTo W outs bl 0 = bl := by
  apply List.ext_getElem?
  intro j
  rw [onceTo_get]
  cases bl[j]? <;> simp
theorem onceTo_succ {W : Int} {outs : List (List Bool)} {bl : List LBlock} {i : Nat} {B : LBlock} (hB : bl[i]? = some B) : onceTo W outs bl (i + 1) = (onceTo W outs bl i).set i (onceB W (outs.getD i []) B) := by
  apply List.ext_getElem?
  intro j
  rw [List.getElem?_set, onceTo_get, onceTo_get]
  by_cases e : i = j
  · subst e
    have : i < (onceTo W outs bl i).length := by unfold onceTo; rw [List.length_mapIdx]; exact (List.getElem?_eq_some_iff.1 hB).1
    rw [if_pos rfl, if_pos this, hB, Option.map_some, if_pos (by omega)]
  · rw [if_neg e]
    cases bl[j]? with
    | none => rfl
    | some C =>
      simp only [Option.map_some, Option.some.injEq]
      by_cases h : j < i
      · rw [if_pos h, if_pos (by omega)]
      · rw [if_neg h, if_neg (by omega)]
theorem goneTo_succ {W : Int} {outs : List (List Bool)} {bl : List LBlock} {i : Nat} {B : LBlock} (hB : bl[i]? = some B) : goneTo W outs bl (i + 1) = (goneTo W outs bl i || goneB W (outs.getD i []) B) := by
  unfold goneTo
  rw [List.range_succ, List.any_append, List.any_cons, List.any_nil, Bool.or_false, hB]
/-- what is as it was while some go -/
structure SubB (bl bl' : List LBlock) : Prop where
  len : bl'.length = bl.length
  blk : ∀ (c : Nat) (C : LBlock), bl[c]? = some C → ∃ D, bl'[c]? = some D ∧ D.kind = C.kind ∧ D.on = C.on ∧ D.to = C.to ∧ D.list.Sublist C.list ∧ D.phis.Sublist C.phis
theorem SubB.refl (bl : List LBlock) : SubB bl bl := ⟨rfl, fun _ C hC => ⟨C, hC, rfl, rfl, rfl, .refl _, .refl _⟩⟩
theorem SubB.trans {a b c : List LBlock} (h : SubB a b) (k : SubB b c) : SubB a c := ⟨k.len.trans h.len, fun i C hC => by
  obtain ⟨D, hD, h1, h2, h3, h4, h5⟩ := h.blk i C hC
  obtain ⟨E, hE, k1, k2, k3, k4, k5⟩ := k.blk i D hD
  exact ⟨E, hE, k1.trans h1, k2.trans h2, k3.trans h3, k4.trans h4, k5.trans h5⟩⟩
theorem Cut.sub {W : Int} {a b : List LBlock} (h : Cut W a b) : SubB a b := by
  obtain ⟨pos, hp⟩ := h.thin
  refine ⟨hp.len, fun c C hC => ?_⟩
  obtain ⟨D, hD, h1, h2, h3, h4, h5, _⟩ := hp.blk c C hC
  exact ⟨D, hD, h1, h2, h3, h4, h5⟩
theorem Cuts.sub {W : Int} {a b : List LBlock} (h : Cuts W a b) : SubB a b := by
  induction h with
  | refl _ => exact .refl _
  | head h1 _ ih => exact h1.sub.trans ih
theorem SubB.mem {a b : List LBlock} (h : SubB a b) {D : LBlock} (hD : D ∈ b) : ∃ (c : Nat) (C : LBlock), a[c]? = some C ∧ b[c]? = some D ∧ D.kind = C.kind ∧ D.on = C.on ∧ D.to = C.to ∧ D.list.Sublist C.list ∧ D.phis.Sublist C.phis := by
  obtain ⟨c, hc⟩ := List.getElem?_of_mem hD
  have hcl : c < a.length := by rw [← h.len]; exact (List.getElem?_eq_some_iff.1 hc).1
  obtain ⟨D', hD', h1⟩ := h.blk c _ (List.getElem?_eq_getElem hcl)
  rw [hc] at hD'
  obtain rfl := Option.some.inj hD'
  exact ⟨c, _, List.getElem?_eq_getElem hcl, hc, h1⟩
theorem SubB.to {a b : List LBlock} (h : SubB a b) (i : Nat) : toOf b i = toOf a i := by
  unfold toOf
  cases hC : a[i]? with
  | none => rw [List.getElem?_eq_none (by rw [h.len]; exact List.getElem?_eq_none_iff.1 hC)]
  | some C =>
    obtain ⟨D, hD, _, _, hto, _⟩ := h.blk i C hC
    rw [hD]
    exact hto
theorem SubB.funcOk {R : Nat} {a b : List LBlock} (h : SubB a b) (hf : FuncOk R a) : FuncOk R b := by
  refine ⟨fun D hD => ?_, fun c D hD => ?_⟩
  · obtain ⟨c, C, hC, _, h1, _, h3, _⟩ := h.mem hD
    have := hf.good C (List.mem_of_getElem? hC)
    rw [h3, h.len]
    exact this
  · have hcl : c < a.length := by rw [← h.len]; exact (List.getElem?_eq_some_iff.1 hD).1
    obtain ⟨D', hD', h1, h2, h3, h4, h5⟩ := h.blk c _ (List.getElem?_eq_getElem hcl)
    rw [hD] at hD'
    obtain rfl := Option.some.inj hD'
    have := hf.block c _ (List.getElem?_eq_getElem hcl)
    exact ⟨fun p hp => by rw [preds_same h.len h.to]; exact this.phis p (h5.subset hp), fun x hx => this.list x (h4.subset hx), by rw [h2]; exact this.on, by rw [h3]; exact this.to⟩
theorem Cut.behind {W : Int} {a b : List LBlock} (h : Cut W a b) {c r : Nat} {C D : LBlock} (hC : a[c]? = some C) (hD : b[c]? = some D) (hl : LiveS b r c (D.list.length + 1)) : LiveS a r c (C.list.length + 1) := by
  cases h with
  | @ins b' i B x hB hx hq hd =>
    have hlt := (List.getElem?_eq_some_iff.1 hx).1
    rw [delI_get] at hD
    by_cases e : b' = c
    · subst e
      rw [if_pos rfl, hC, Option.map_some] at hD
      rw [hB] at hC
      obtain rfl := Option.some.inj hC
      obtain rfl := Option.some.inj hD
      have hlen : ((eI i B).list.length : Int) + 1 = B.list.length := by unfold eI; simp only; rw [List.length_eraseIdx, if_pos hlt]; omega
      have := ((delI_live hB hx hd hl).2 rfl).2 (by omega)
      rw [hlen] at this
      exact this
    · rw [if_neg e, hC] at hD
      obtain rfl := Option.some.inj hD
      exact (delI_live hB hx hd hl).1 (Ne.symm e)
  | @phi b' i B p hB hp hd =>
    rw [delP_get] at hD
    have hlen : D.list.length = C.list.length := by
      by_cases e : b' = c
      · rw [if_pos e, hC, Option.map_some] at hD
        obtain rfl := Option.some.inj hD
        rfl
      · rw [if_neg e, hC] at hD
        obtain rfl := Option.some.inj hD
        rfl
    rw [hlen] at hl
    exact delP_live hB hp hd hl
theorem Cuts.behind {W : Int} {a b : List LBlock} (h : Cuts W a b) {c r : Nat} : ∀ {C D : LBlock}, a[c]? = some C → b[c]? = some D → LiveS b r c (D.list.length + 1) → LiveS a r c (C.list.length + 1) := by
  induction h with
  | refl _ =>
    intro C D hC hD hl
    rw [hC] at hD
    obtain rfl := Option.some.inj hD
    exact hl
  | @head a e b h1 _ ih =>
    intro C D hC hD hl
    obtain ⟨E, hE, _⟩ := h1.sub.blk c C hC
    exact h1.behind hC hE (ih hE hD hl)
/-- what is known of the sets behind the blocks -/
structure OutOk (R : Nat) (bl : List LBlock) (outs : List (List Bool)) : Prop where
  len : outs.length = bl.length
  row : ∀ s ∈ outs, s.length = R
  at' : ∀ (b : Nat) s B, outs[b]? = some s → bl[b]? = some B → ∀ r, has s r ↔ LiveS bl r b (B.list.length + 1)
theorem OutOk.get {R : Nat} {bl : List LBlock} {outs : List (List Bool)} (h : OutOk R bl outs) {b : Nat} {B : LBlock} (hB : bl[b]? = some B) : (outs.getD b []).length = R ∧ ∀ r, has (outs.getD b []) r ↔ LiveS bl r b (B.list.length + 1) := by
  have hbl := (List.getElem?_eq_some_iff.1 hB).1
  have hg : outs[b]? = some (outs[b]'(by rw [h.len]; exact hbl)) := List.getElem?_eq_getElem _
  rw [List.getD_eq_getElem?_getD, hg, Option.getD_some]
  exact ⟨h.row _ (List.getElem_mem _), h.at' b _ B hg hB⟩
theorem once_cuts {W : Int} {R : Nat} {bl : List LBlock} {outs : List (List Bool)} (hf : FuncOk R bl) (ho : OutOk R bl outs) : ∀ i, i ≤ bl.length → Cuts W bl (onceTo W outs bl i)
  | 0, _ => by rw [onceTo_zero]; exact .refl _
  | i + 1, hi => by
    have ih := once_cuts (W := W) hf ho i (by omega)
    have hB : bl[i]? = some bl[i] := List.getElem?_eq_getElem (by omega)
    have hC : (onceTo W outs bl i)[i]? = some bl[i] := by rw [onceTo_get, hB, Option.map_some, if_neg (by omega)]
    obtain ⟨h1, h2⟩ := ho.get hB
    have hb := hf.block i _ hB
    rw [onceTo_succ hB]
    exact ih.trans (onceB_cuts h1 hC hb.list hb.on fun r hr => (h2 r).2 (ih.behind hB hC hr))
theorem once_same {W : Int} {outs : List (List Bool)} {bl : List LBlock} (h : goneTo W outs bl bl.length = false) : ∀ (b : Nat) B, bl[b]? = some B → onceB W (outs.getD b []) B = B := fun b B hB => by
  unfold goneTo at h
  rw [List.any_eq_false] at h
  have := h b (List.mem_range.2 (List.getElem?_eq_some_iff.1 hB).1)
  rw [hB] at this
  exact gone_not (by simpa using this)
/-- what can be quiet has a register to write -/
def QDst (bl : List LBlock) : Prop := ∀ B ∈ bl, ∀ x ∈ B.list, 1 ≤ x.op → x.op ≤ 18 → 0 ≤ x.dst
theorem quiet_op {W : Int} {x : LIns} (h : quietI W x = true) : 1 ≤ x.op ∧ x.op ≤ 18 := by
  unfold quietI quietL at h
  split at h
  · omega
  split at h
  · omega
  simp only [Bool.and_eq_true, decide_eq_true_eq] at h
  omega
theorem ins_dst {fs : List LFunc} {R : Int} {x : LIns} (h : insErr fs R x = 0) (h1 : 1 ≤ x.op) (h2 : x.op ≤ 18) : 0 ≤ x.dst := by
  unfold insErr at h
  split at h
  · cases h
  split at h
  · cases h
  split at h
  · rename_i h3
    simp only [Bool.and_eq_true, Bool.not_eq_true', decide_eq_false_iff_not] at h3
    exact absurd h h3.2
  rename_i h3
  have hs : (shape x.op).1 = true := by
    unfold shape
    split
    · rfl
    split
    · rfl
    omega
  simp only [Bool.and_eq_true, Bool.not_eq_true', decide_eq_false_iff_not, hs, true_and, not_and, Decidable.not_not, Bool.and_eq_false_iff] at h3
  have := h3 (by left; omega)
  unfold dstErr within at this
  by_cases h0 : 0 ≤ x.dst
  · exact h0
  · simp [h0] at this
theorem SubB.qdst {a b : List LBlock} (h : SubB a b) (hq : QDst a) : QDst b := fun D hD x hx => by
  obtain ⟨_, C, hC, _, _, _, _, h4, _⟩ := h.mem hD
  exact hq C (List.mem_of_getElem? hC) x (h4.subset hx)
theorem once_end {W : Int} {R : Nat} {bl : List LBlock} {outs : List (List Bool)} (hf : FuncOk R bl) (hqd : QDst bl) (ho : OutOk R bl outs) (h : goneTo W outs bl bl.length = false) : onceTo W outs bl bl.length = bl ∧ Trim0 W bl := by
  have hs := once_same h
  refine ⟨?_, fun bl' hc => ?_⟩
  · apply List.ext_getElem?
    intro j
    rw [onceTo_get]
    cases hB : bl[j]? with
    | none => rfl
    | some B =>
      rw [Option.map_some, hs j B hB]
      split <;> rfl
  · cases hc with
    | @ins b i B x hB hx hq hd =>
      obtain ⟨h1, h2⟩ := ho.get hB
      have hb := hf.block b B hB
      have hk := onceB_same h1 hB hb.list hb.on h2 (hs b B hB)
      have hop := quiet_op hq
      have h0 := hqd B (List.mem_of_getElem? hB) x (List.mem_of_getElem? hx) hop.1 hop.2
      exact hd x.dst.toNat (by omega) (hk.1 i x hx hq x.dst.toNat (by omega))
    | @phi b i B p hB hp hd =>
      obtain ⟨h1, h2⟩ := ho.get hB
      have hb := hf.block b B hB
      have hpm := List.mem_of_getElem? hp
      have h0 := (hb.phis p hpm).dst.1
      have hk := onceB_same h1 hB hb.list hb.on h2 (hs b B hB)
      exact hd p.dst.toNat (by omega) (hk.2 p hpm p.dst.toNat (by omega))
theorem Cuts.less {W : Int} {a b : List LBlock} (h : Cuts W a b) : a = b ∨ sizeN b < sizeN a := by
  induction h with
  | refl _ => exact .inl rfl
  | head h1 _ ih =>
    have := h1.less
    rcases ih with rfl | ih
    · exact .inr this
    · exact .inr (by omega)
theorem once_less {W : Int} {R : Nat} {bl : List LBlock} {outs : List (List Bool)} (hf : FuncOk R bl) (ho : OutOk R bl outs) (h : goneTo W outs bl bl.length = true) : sizeN (onceTo W outs bl bl.length) < sizeN bl := by
  rcases (once_cuts (W := W) hf ho bl.length (Nat.le_refl _)).less with e | e
  · exfalso
    unfold goneTo at h
    obtain ⟨b, hb, hg⟩ := List.any_eq_true.1 h
    have hbl := List.mem_range.1 hb
    have hB : bl[b]? = some bl[b] := List.getElem?_eq_getElem hbl
    rw [hB] at hg
    have h1 := onceTo_get W outs bl bl.length b
    rw [← e, hB, Option.map_some, if_pos hbl] at h1
    have h2 := Option.some.inj h1
    simp only [goneB, Bool.or_eq_true, decide_eq_true_eq] at hg
    rw [← h2] at hg
    omega
  · exact e

/-! ### The end of it -/
noncomputable def trimB (W : Int) (bl : List LBlock) : List LBlock := Classical.choose (cuts_end W (sizeN bl) bl (Nat.le_refl _))
theorem trimB_cuts (W : Int) (bl : List LBlock) : Cuts W bl (trimB W bl) := (Classical.choose_spec (cuts_end W (sizeN bl) bl (Nat.le_refl _))).1
theorem trimB_end (W : Int) (bl : List LBlock) : Trim0 W (trimB W bl) := (Classical.choose_spec (cuts_end W (sizeN bl) bl (Nat.le_refl _))).2
theorem trimB_eq {W : Int} {bl x : List LBlock} (h : Cuts W bl x) (h0 : Trim0 W x) : x = trimB W bl := cuts_one W (sizeN bl) bl x _ (Nat.le_refl _) h (trimB_cuts W bl) h0 (trimB_end W bl)
noncomputable def trimF (W : Int) (X : LFunc) : LFunc := putB X (trimB W X.blocks)
noncomputable def trimU (u : LUnit) : LUnit := { u with funcs := u.funcs.map (trimF (wordsU u)) }
theorem trimU_cuts (u : LUnit) : CutsU (wordsU u) u (trimU u) := ⟨rfl, List.length_map _, fun k X Y hX hY => by
  unfold trimU at hY
  simp only [List.getElem?_map, hX, Option.map_some, Option.some.injEq] at hY
  exact ⟨_, hY.symm, trimB_cuts _ _⟩⟩
end Go.Proofs.YtbmnkjaelfjlhaaDoor


/- live.QuietIn, live.Words, turneryref3.Quiet, Words: what each returns. -/
namespace Go.Proofs.YtbmnkjaelfjlhaaDoor
open Go Go.RowKit
attribute [local irreducible] wpListIn Code.wpIn Exit.then Exit.inBlock bodyPost wpQuiet
set_option maxHeartbeats 1000000

theorem withinD_c (n lo hi : Int) (w0 : World) : RetV Tryd.prog 40 [.int .i64 n, .int .i64 lo, .int .i64 hi] w0 (.bool (decide (lo ≤ n) && decide (n ≤ hi))) := within_c n lo hi w0
theorem refQuiet_c (words op dst an bn fn : Int) (ar br : Bool) (args : Value) (w0 : World) :
    RetV Tryd.prog 101 [.int .i64 words, .agg #[.int .i64 op, .int .i64 dst, .bool ar, .int .i64 an, .bool br, .int .i64 bn, .int .i64 fn, args]] w0 (.bool (quietL words op ar an br bn)) := by
  refine ret_enter Tryd.func101 rfl Tryd.ntmps101 rfl (Wd.nil NoS w0) ?_
  repeat (first | refine g_op rfl ?_ | refine g_then ?_ | refine g_nil ?_ | refine g_region ?_ | refine g_seq ?_ | refine g_box rfl fun _ _ => ?_)
  generalize hb : decide (op = 5) = b5
  refine g_join 4 12 (.bool (b5 || decide (op = 6))) ?_ ?_
  · cases b5
    · repeat (first | refine g_op rfl ?_ | refine g_then ?_ | refine g_nil ?_ | refine g_open ?_)
      exact g_done (by repeat (first | exact trivial | refine ⟨rfl, ?_⟩)) (by simp)
    · repeat (first | refine g_op rfl ?_ | refine g_then ?_ | refine g_nil ?_ | refine g_pass rfl ?_)
      exact g_done (by repeat (first | exact trivial | refine ⟨rfl, ?_⟩)) (by simp)
  · repeat (first | refine g_then ?_ | refine g_nil ?_)
    refine g_cond (fun h1 => ?_) (fun h1 => ?_)
    · have h1' : op = 5 ∨ op = 6 := by subst hb; simpa using h1
      cases br
      · repeat (first | refine g_op rfl ?_ | refine g_then ?_ | refine g_nil ?_ | refine g_region ?_ | refine g_seq ?_ | refine g_opS rfl ?_ | refine g_open ?_ | refine g_ret ?_ | refine g_thenRet ?_)
        exact g_retV rfl (by simp [quietL, h1'])
      · repeat (first | refine g_op rfl ?_ | refine g_then ?_ | refine g_nil ?_ | refine g_region ?_ | refine g_seq ?_ | refine g_opS rfl ?_ | refine g_pass rfl ?_ | refine g_ret ?_ | refine g_thenRet ?_)
        exact g_retV rfl (by simp [quietL, h1'])
    · have h1' : ¬ (op = 5 ∨ op = 6) := by subst hb; simpa using h1
      repeat (first | refine g_op rfl ?_ | refine g_then ?_ | refine g_nil ?_ | refine g_region ?_ | refine g_seq ?_ | refine g_skip ?_)
      refine g_cond (fun h2 => ?_) (fun h2 => ?_)
      · have h2' : op = 18 := by simpa using h2
        cases ar
        · repeat (first | refine g_op rfl ?_ | refine g_region ?_ | refine g_seq ?_ | refine g_open ?_)
          generalize hb2 : decide (0 ≤ an) = b2
          cases b2
          · repeat (first | refine g_op rfl ?_ | refine g_then ?_ | refine g_nil ?_ | refine g_opS rfl ?_ | refine g_pass rfl ?_ | refine g_ret ?_ | refine g_thenRet ?_)
            exact g_retV rfl (by simp [quietL, h2', hb2])
          · repeat (first | refine g_op rfl ?_ | refine g_then ?_ | refine g_nil ?_ | refine g_opS rfl ?_ | refine g_open ?_ | refine g_ret ?_ | refine g_thenRet ?_)
            exact g_retV rfl (by simp [quietL, h2', hb2])
        · repeat (first | refine g_op rfl ?_ | refine g_then ?_ | refine g_nil ?_ | refine g_region ?_ | refine g_seq ?_ | refine g_opS rfl ?_ | refine g_pass rfl ?_ | refine g_ret ?_ | refine g_thenRet ?_)
          exact g_retV rfl (by simp [quietL, h2'])
      · have h2' : ¬ op = 18 := by simpa using h2
        repeat (first | refine g_op rfl ?_ | refine g_then ?_ | refine g_region ?_ | refine g_seq ?_ | refine g_skip ?_)
        generalize hb2 : decide (1 ≤ op) = b2
        cases b2
        · repeat (first | refine g_op rfl ?_ | refine g_then ?_ | refine g_nil ?_ | refine g_opS rfl ?_ | refine g_pass rfl ?_ | refine g_ret ?_)
          exact g_retV rfl (by simp [quietL, h1', h2', hb2])
        · repeat (first | refine g_op rfl ?_ | refine g_then ?_ | refine g_nil ?_ | refine g_opS rfl ?_ | refine g_open ?_ | refine g_ret ?_)
          exact g_retV rfl (by simp [quietL, h1', h2', hb2])

theorem quietIn_c (words op dst an bn fn : Int) (ar br : Bool) (args : Value) (hw : 0 ≤ words ∧ words ≤ 9223372036854775807) (w0 : World) :
    RetV Tryd.prog 96 [.int .i64 words, .agg #[.int .i64 op, .int .i64 dst, .bool ar, .int .i64 an, .bool br, .int .i64 bn, .int .i64 fn, args]] w0 (.bool (quietL words op ar an br bn)) := by
  refine ret_enter Tryd.func96 rfl Tryd.ntmps96 rfl (Wd.nil NoS w0) ?_
  repeat (first | refine g_op rfl ?_ | refine g_then ?_ | refine g_nil ?_ | refine g_region ?_ | refine g_seq ?_ | refine g_box rfl fun _ _ => ?_ | refine g_block ?_)
  generalize hb : decide (op = 5) = b5
  refine g_join 4 13 (.bool (b5 || decide (op = 6))) ?_ ?_
  · cases b5
    · repeat (first | refine g_op rfl ?_ | refine g_then ?_ | refine g_nil ?_ | refine g_open ?_)
      exact g_done (by repeat (first | exact trivial | refine ⟨rfl, ?_⟩)) (by simp)
    · repeat (first | refine g_op rfl ?_ | refine g_then ?_ | refine g_nil ?_ | refine g_pass rfl ?_)
      exact g_done (by repeat (first | exact trivial | refine ⟨rfl, ?_⟩)) (by simp)
  · repeat (first | refine g_op rfl ?_ | refine g_then ?_ | refine g_nil ?_)
    refine g_cond (fun h1 => ?_) (fun h1 => ?_)
    · have h1' : op = 5 ∨ op = 6 := by subst hb; simpa using h1
      cases br
      · repeat (first | refine g_op rfl ?_ | refine g_then ?_ | refine g_nil ?_ | refine g_region ?_ | refine g_seq ?_ | refine g_opS rfl ?_ | refine g_open ?_ | refine g_ret ?_ | refine g_thenRet ?_ | refine g_blockRet ?_)
        exact g_retV rfl (by simp [quietL, h1'])
      · repeat (first | refine g_op rfl ?_ | refine g_then ?_ | refine g_nil ?_ | refine g_region ?_ | refine g_seq ?_ | refine g_opS rfl ?_ | refine g_pass rfl ?_ | refine g_ret ?_ | refine g_thenRet ?_ | refine g_blockRet ?_)
        exact g_retV rfl (by simp [quietL, h1'])
    · have h1' : ¬ (op = 5 ∨ op = 6) := by subst hb; simpa using h1
      repeat (first | refine g_op rfl ?_ | refine g_then ?_ | refine g_nil ?_ | refine g_region ?_ | refine g_seq ?_)
      refine g_cond (fun h2 => ?_) (fun h2 => ?_)
      · have h2' : op = 18 := by simpa using h2
        cases ar
        · repeat (first | refine g_op rfl ?_ | refine g_region ?_ | refine g_seq ?_ | refine g_open ?_ | refine g_sub rfl (by omega) (by omega) ?_)
          refine g_callV rfl (fun w _ => withinD_c _ _ _ w) ?_
          repeat (first | refine g_op rfl ?_ | refine g_then ?_ | refine g_nil ?_ | refine g_opS rfl ?_ | refine g_ret ?_ | refine g_thenRet ?_ | refine g_blockRet ?_)
          refine g_retV rfl ?_
          simp only [quietL, h2', if_neg (show ¬ ((18 : Int) = 5 ∨ (18 : Int) = 6) by omega), if_true, Bool.not_false, Bool.true_and, Value.bool.injEq]
          congr 1
          rw [decide_eq_decide]; omega
        · repeat (first | refine g_op rfl ?_ | refine g_then ?_ | refine g_nil ?_ | refine g_region ?_ | refine g_seq ?_ | refine g_opS rfl ?_ | refine g_pass rfl ?_ | refine g_ret ?_ | refine g_thenRet ?_ | refine g_blockRet ?_)
          exact g_retV rfl (by simp [quietL, h2'])
      · have h2' : ¬ op = 18 := by simpa using h2
        repeat (first | refine g_op rfl ?_ | refine g_then ?_ | refine g_region ?_ | refine g_seq ?_ | refine g_inBlock ?_ | refine g_skip ?_)
        refine g_callV rfl (fun w _ => withinD_c _ _ _ w) ?_
        repeat (first | refine g_then ?_ | refine g_nil ?_ | refine g_opS rfl ?_ | refine g_ret ?_)
        exact g_retV rfl (by simp [quietL, h1', h2'])

def wordsTo (l : List LGlobal) (i : Nat) : Int := ((l.take i).map (·.size)).sum
def wordsL (l : List LGlobal) : Int := (l.map (·.size)).sum
theorem wordsTo_succ {l : List LGlobal} {i : Nat} {x : LGlobal} (h : l[i]? = some x) : wordsTo l (i + 1) = wordsTo l i + x.size := by
  have hi : i < l.length := (List.getElem?_eq_some_iff.1 h).1
  simp [wordsTo, List.take_add_one, h, List.sum_append]
theorem wordsTo_all (l : List LGlobal) : wordsTo l l.length = wordsL l := by simp [wordsTo, wordsL]
def smallG (l : List LGlobal) : Prop := l.length ≤ 101 ∧ ∀ x ∈ l, 0 ≤ x.size ∧ x.size ≤ 100000
theorem wordsTo_bd {l : List LGlobal} (h : smallG l) (i : Nat) : 0 ≤ wordsTo l i ∧ wordsTo l i ≤ 100000 * i := by
  induction i with
  | zero => simp [wordsTo]
  | succ i ih =>
    cases hx : l[i]? with
    | some x =>
      rw [wordsTo_succ hx]
      have := h.2 x (List.mem_of_getElem? hx)
      omega
    | none =>
      have hle : l.length ≤ i := by simpa using hx
      have e : wordsTo l (i + 1) = wordsTo l i := by simp only [wordsTo]; rw [List.take_of_length_le hle, List.take_of_length_le (by omega)]
      omega
theorem words_c (g f : Value) (gl : List LGlobal) (hs : smallG gl) (w0 : World) (hg : SlAt w0 g 3 gl GlobalV) :
    RetV Tryd.prog 63 [.agg #[g, f]] w0 (.int .i64 (wordsL gl)) := by
  obtain ⟨ga, n, c, gb, go, rfl, hn, hnc, _, hc, hga, hel⟩ := hg
  refine ret_enter Tryd.func63 rfl Tryd.ntmps63 rfl (Wd.nil NoS w0) ?_
  repeat (first | refine g_op rfl ?_ | refine g_then ?_ | refine g_nil ?_ | refine g_region ?_ | refine g_seq ?_ | refine g_box rfl fun _ _ => ?_ | refine g_block ?_)
  refine g_loop (fun (i : Nat) => i ≤ n) (fun i => [(3, .int .i64 (wordsTo gl i)), (9, .int .i64 i), (7, .slice ga n c), (8, .int .i64 n)]) (fun _ => []) (fun i => n - i) 0 (Nat.zero_le _) (g_done (by repeat (first | exact trivial | refine ⟨rfl, ?_⟩)) (by simp)) fun i hi => ?_
  repeat (first | refine g_op rfl ?_ | refine g_then ?_ | refine g_nil ?_ | refine g_region ?_ | refine g_seq ?_)
  refine g_cond (fun h1 => ?_) (fun h1 => ?_)
  · have hlt : i < n := by simpa using h1
    obtain ⟨x, hx⟩ := get_lt hn hlt
    have ha : AddrIs ga gb go := ⟨hga (ne_of_get hx)⟩
    have hli : LtIs i n := ⟨hlt⟩
    obtain ⟨cs, hcs, v, rfl, _, hv⟩ := hel i x hx
    obtain ⟨va, vn, vc, vb, vo, rfl, _⟩ := hv
    have hci : CellsIs w0 gb (go + i * 3) _ := ⟨hcs⟩
    have hbd := wordsTo_bd hs i
    have hxs := hs.2 x (List.mem_of_getElem? hx)
    have hl := hs.1
    repeat (first | refine g_op rfl ?_ | refine g_then ?_ | refine g_nil ?_ | refine g_region ?_ | refine g_seq ?_ | refine g_opS rfl ?_ | refine g_alloc rfl fun _ _ => ?_ | refine g_storeAgg ?_ | refine g_inBlock ?_ | refine g_block ?_ | refine g_skip ?_ | refine g_add rfl (by omega) (by omega) ?_)
    refine g_next (i + 1) (by omega) (by omega) ?_ (by simp)
    rw [wordsTo_succ hx]
    exact (by repeat (first | exact trivial | refine ⟨rfl, ?_⟩))
  · have hge : i = n := by have := h1; simp at this; omega
    repeat (first | refine g_op rfl ?_ | refine g_then ?_ | refine g_nil ?_ | refine g_region ?_ | refine g_seq ?_ | refine g_exit ?_ | refine g_thenExit ?_ | refine g_exitHere ?_ | refine g_ret ?_)
    exact g_retV rfl (by rw [hge, hn, wordsTo_all])

theorem refWords_c (g f : Value) (gl : List LGlobal) (hs : smallG gl) (w0 : World) (hg : SlAt w0 g 3 gl GlobalV) (hf : ∃ a n c, f = .slice a n c) :
    RetV Tryd.prog 30 [.agg #[g, f]] w0 (.int .i64 (wordsL gl)) := by
  obtain ⟨fa, fn, fc, rfl⟩ := hf
  obtain ⟨ga, n, c, gb, go, rfl, hn, hnc, _, hc, hga, hel⟩ := hg
  refine ret_enter Tryd.func30 rfl Tryd.ntmps30 rfl (Wd.nil NoS w0) ?_
  repeat (first | refine g_op rfl ?_ | refine g_then ?_ | refine g_nil ?_ | refine g_region ?_ | refine g_seq ?_ | refine g_box rfl fun _ _ => ?_ | refine g_block ?_)
  rename_i p1 _
  refine g_loop (fun (i : Nat) => i ≤ n) (fun i => [(3, .int .i64 (wordsTo gl i)), (4, .int .i64 i), (1, .pointer (some ⟨p1, 0, none⟩))]) (fun _ => [Ent.box p1 [.slice ga n c, .slice fa fn fc] 25]) (fun i => n - i) 0 (Nat.zero_le _) (g_done (by repeat (first | exact trivial | refine ⟨rfl, ?_⟩)) (by simp)) fun i hi => ?_
  repeat (first | refine g_op rfl ?_ | refine g_then ?_ | refine g_nil ?_ | refine g_region ?_ | refine g_seq ?_)
  refine g_cond (fun h1 => ?_) (fun h1 => ?_)
  · have hlt : i < n := by simpa using h1
    obtain ⟨x, hx⟩ := get_lt hn hlt
    have had : AddrIs ga gb go := ⟨hga (ne_of_get hx)⟩
    have hli : LtIs i n := ⟨hlt⟩
    obtain ⟨cs, hcs, iv, rfl, hsz, hiv⟩ := hel i x hx
    have hci : CellsIs w0 gb (go + i * 3) _ := ⟨hcs⟩
    have hb1 := wordsTo_bd hs i
    have hx1 := hs.2 x (List.mem_of_getElem? hx)
    have hn101 := hs.1
    repeat (first | refine g_op rfl ?_ | refine g_then ?_ | refine g_nil ?_ | refine g_region ?_ | refine g_seq ?_ | refine g_opS rfl ?_ | refine g_inBlock ?_ | refine g_block ?_ | refine g_skip ?_ | refine g_add rfl (by omega) (by omega) ?_)
    rw [← wordsTo_succ hx, show (i : Int) + 1 = ((i + 1 : Nat) : Int) by omega]
    exact g_next (i + 1) hlt (by omega) (by repeat (first | exact trivial | refine ⟨rfl, ?_⟩)) (List.Sublist.refl _)
  have hge : i = n := by have := h1; simp at this; omega
  rw [hge, hn, wordsTo_all]
  repeat (first | refine g_op rfl ?_ | refine g_then ?_ | refine g_nil ?_ | refine g_region ?_ | refine g_seq ?_ | refine g_exit ?_ | refine g_thenExit ?_ | refine g_exitHere ?_ | refine g_ret ?_)
  exact g_retV rfl rfl
end Go.Proofs.YtbmnkjaelfjlhaaDoor


/- turnerylaw3.given: a pass tells what it must. -/
namespace Go.Proofs.YtbmnkjaelfjlhaaDoor
open Go Go.RowKit
attribute [local irreducible] wpListIn Code.wpIn Exit.then Exit.inBlock bodyPost wpQuiet wpAnyIn wpAnyH bodyPostM
set_option maxHeartbeats 4000000

/-- what a pass tells of a unit whose functions are to become those of another one -/
def Told (want : LUnit) (w : World) (g f : Value) (c k : Int) : Prop :=
  (∃ (i : Nat) (X : LFunc), want.funcs[i]? = some X ∧ largeF X = true ∧ (∀ (j : Nat) (Y : LFunc), j < i → want.funcs[j]? = some Y → largeF Y = false) ∧ g = .slice none 0 0 ∧ f = .slice none 0 0 ∧ c = 10 ∧ k = i) ∨
  ((∀ X ∈ want.funcs, largeF X = false) ∧ c = 0 ∧ k = 0 ∧ SlAt w g 3 want.globals GlobalV ∧ SlAt w f 4 want.funcs FuncV)
theorem Told.keep {want : LUnit} {w w' : World} {g f : Value} {c k : Int} (h : Told want w g f c k) (hc : Chg NoS w w') : Told want w' g f c k := by
  rcases h with h | ⟨h1, h2, h3, h4, h5⟩
  · exact .inl h
  · exact .inr ⟨h1, h2, h3, h4.keep keeps_global hc, h5.keep keeps_func hc⟩
structure FnSmall (X : LFunc) : Prop where
  n : X.blocks.length ≤ 1000
  each : ∀ b ∈ X.blocks, b.phis.length ≤ 1000 ∧ b.list.length ≤ 1000
theorem given_c (ug uf g f : Value) (c k : Int) (wg wf : Value) (want : LUnit) (w0 : World) (hwg : SlAt w0 wg 3 want.globals GlobalV) (hwf : SlAt w0 wf 4 want.funcs FuncV) (hlim : ∀ X ∈ want.funcs, FnSmall X) (hkb : inI k) (hT : Told want w0 g f c k) :
    RetV Tryd.prog 19 [.agg #[ug, uf], .agg #[g, f], .agg #[.int .i64 c, .int .i64 k], .agg #[wg, wf]] w0 (.bool true) := by
  have hwg0 := hwg
  have hwf0 := hwf
  obtain ⟨ga, gn, gc, _, _, rfl, _⟩ := hwg
  obtain ⟨fa, fn, fc, fb, fo, rfl, rfl, _, _, _, hfa, hfel⟩ := hwf
  refine ret_enter Tryd.func19 rfl Tryd.ntmps19 rfl (Wd.nil NoS w0) ?_
  repeat (first | refine g_op rfl ?_ | refine g_then ?_ | refine g_nil ?_ | refine g_region ?_ | refine g_seq ?_ | refine g_box rfl fun _ _ => ?_ | refine g_block ?_)
  rename_i p4 _ p5 _ p6 _ p7 _
  refine g_loop (fun (i : Nat) => i ≤ want.funcs.length ∧ ∀ (j : Nat) (Y : LFunc), j < i → want.funcs[j]? = some Y → largeF Y = false) (fun i => [(9, .int .i64 i), (5, .pointer (some ⟨p5, 0, none⟩)), (6, .pointer (some ⟨p6, 0, none⟩)), (7, .pointer (some ⟨p7, 0, none⟩))]) (fun _ => [Ent.box p7 [.slice ga gn gc, .slice fa want.funcs.length fc] 25, Ent.box p6 [.int .i64 c, .int .i64 k] 28, Ent.box p5 [g, f] 25, Ent.box p4 [ug, uf] 25]) (fun i => want.funcs.length - i) 0 ⟨Nat.zero_le _, fun j Y hj => by omega⟩ (g_done (by repeat (first | exact trivial | refine ⟨rfl, ?_⟩)) (by simp)) fun i ⟨hi, hall⟩ => ?_
  repeat (first | refine g_op rfl ?_ | refine g_then ?_ | refine g_nil ?_ | refine g_region ?_ | refine g_seq ?_)
  refine g_cond (fun h2 => ?_) (fun h2 => ?_)
  · have hlt : i < want.funcs.length := by simpa using h2
    obtain ⟨X, hX⟩ : ∃ X, want.funcs[i]? = some X := ⟨_, List.getElem?_eq_getElem hlt⟩
    have had : AddrIs fa fb fo := ⟨hfa (ne_of_get hX)⟩
    have hli : LtIs i want.funcs.length := ⟨hlt⟩
    obtain ⟨_, hcs, bv, rfl, hpi, hri, hbv⟩ := hfel i X hX
    have hci : CellsIs w0 fb (fo + i * 4) _ := ⟨hcs⟩
    have hXl := hlim X (List.mem_of_getElem? hX)
    repeat (first | refine g_op rfl ?_ | refine g_then ?_ | refine g_region ?_ | refine g_seq ?_ | refine g_block ?_ | refine g_skip ?_)
    refine g_callV rfl (fun w hw => refLarge_c _ _ X.regs X.blocks _ w (hbv.keep keeps_block hw.chg) hXl.n hXl.each) ?_
    repeat (first | refine g_then ?_ | refine g_nil ?_)
    refine g_cond (fun h3 => ?_) (fun h3 => ?_)
    · have hlg : largeF X = true := h3
      rcases hT with ⟨i0, X0, h4, h5, h6, rfl, rfl, rfl, rfl⟩ | ⟨h4, _⟩
      · have hii : i0 = i := by
          rcases Nat.lt_trichotomy i0 i with h7 | h7 | h7
          · rw [hall i0 X0 h7 h4] at h5; cases h5
          · exact h7
          · rw [h6 i X h7 hX] at hlg; cases hlg
        subst hii
        repeat (refine g_seq ?_)
        refine g_draw mixed (by kernel_rfl) ?_
        repeat (refine q_op rfl ?_)
        refine q_call rfl (fun w _ => sameFault_c _ _ w) ?_
        repeat (refine q_op rfl ?_)
        rw [dec_self, dec_self, Bool.and_self]
        repeat (first | refine q_op rfl ?_ | refine q_open ?_)
        refine q_call rfl (fun w _ => noneE_c w) ?_
        repeat (first | refine q_op rfl ?_ | refine q_nil ?_)
        repeat (first | refine g_then ?_ | refine g_ret ?_ | refine g_thenRet ?_ | refine g_blockRet ?_)
        exact g_retV rfl rfl
      · rw [h4 X (List.mem_of_getElem? hX)] at hlg; cases hlg
    · have hlg : largeF X = false := by unfold largeF; simpa using h3
      repeat (first | refine g_op rfl ?_ | refine g_then ?_ | refine g_nil ?_ | refine g_region ?_ | refine g_opS rfl ?_ | refine g_inBlock ?_ | refine g_skip ?_ | refine g_add rfl (by omega) (by omega) ?_)
      rw [show (i : Int) + 1 = ((i + 1 : Nat) : Int) by omega]
      refine g_next (i + 1) ⟨hlt, fun j Y hj hY => ?_⟩ (by omega) (by repeat (first | exact trivial | refine ⟨rfl, ?_⟩)) (List.Sublist.refl _)
      by_cases e : j = i
      · subst e
        rw [hX] at hY
        rw [← Option.some.inj hY]; exact hlg
      · exact hall j Y (by omega) hY
  have hge : i = want.funcs.length := by have := h2; simp at this; omega
  rcases hT with ⟨i0, X0, h4, h5, _⟩ | ⟨_, rfl, rfl, h8, h9⟩
  · rw [hall i0 X0 (by have := (List.getElem?_eq_some_iff.1 h4).1; omega) h4] at h5; cases h5
  have h80 := h8
  have h90 := h9
  obtain ⟨_, _, _, _, _, rfl, _⟩ := h8
  obtain ⟨_, _, _, _, _, rfl, _⟩ := h9
  repeat (first | refine g_op rfl ?_ | refine g_then ?_ | refine g_region ?_ | refine g_seq ?_ | refine g_open ?_ | refine g_exit ?_ | refine g_thenExit ?_ | refine g_exitHere ?_)
  rw [dec_self, Bool.and_self]
  skip
  refine g_callV rfl (fun w hw => unitsSame_c _ _ _ _ want w (h80.keep keeps_global hw.chg) (h90.keep keeps_func hw.chg) (hwg0.keep keeps_global hw.chg) (hwf0.keep keeps_func hw.chg)) ?_
  repeat (first | refine g_op rfl ?_ | refine g_then ?_ | refine g_nil ?_ | refine g_ret ?_)
  exact g_retV rfl rfl
end Go.Proofs.YtbmnkjaelfjlhaaDoor


/- slices.Reverse of instructions. -/
namespace Go.Proofs.YtbmnkjaelfjlhaaDoor
open Go Go.RowKit
attribute [local irreducible] wpListIn Code.wpIn Exit.then Exit.inBlock bodyPost wpQuiet wpAnyIn wpAnyH oneH
set_option maxHeartbeats 4000000

section
variable {P : Program} {N : Nat} {ds : List Deferred} {S : Nat → Prop} {w0 : World} {L L' : List (Nat × Value)} {H H' Hr : List Ent} {x y : Operand} {M : Act → World → Prop} {l : List Oper} {fuel : Nat} {listed : Array Bool}
/-- a whole struct into a row of the call's own -/
theorem o_storeVA {ty T b o off j n c e s m : Nat} (i k : Nat) {xs vs : List Value} {pos : String} {aft : Array Go.Edge} [ho : ListAt l i ⟨none, .store T x y, ty, pos, aft, none⟩] [h : AggSize P T m] [hx : Ev L x (.pointer (some ⟨b, off, none⟩))] [hy : Ev L y (.agg vs.toArray)] [hn : LenIs vs m] [h1 : OneVs vs]
    (hk : H[k]? = some (Ent.vec (some ⟨b, o, none⟩) n c e s xs)) (hoff : off = o + j) (hfit : j + m ≤ xs.length) (hHr : Hr.Sublist (H.set k (Ent.vec (some ⟨b, o, none⟩) n c e s (xs.take j ++ vs ++ xs.drop (j + m)))))
    (kk : G N ds S w0 L (H.set k (Ent.vec (some ⟨b, o, none⟩) n c e s (xs.take j ++ vs ++ xs.drop (j + m)))) (wpAnyH P .any l.toArray (OnlyN M) (Wd S w0 Hr) fuel (listed.setIfInBounds i true))) : G N ds S w0 L H (oneH P l M (Wd S w0 Hr) fuel listed i) := by
  refine o_skip i rfl fun a w hS => ?_
  subst hoff
  have hvm := hn.eq
  obtain ⟨w', hs, hW'⟩ := hS.wd.writeAt (P := P) hk j (vs := vs) h1.all (by omega)
  rw [hvm] at hW'
  refine ⟨w', ?_, hW'.sub hHr, kk _ _ ⟨hS.fr, hW'⟩⟩
  simp [execOp, hx.eq _ _ _ hS.fr, hy.eq _ _ _ hS.fr, Instr.storeAt, Instr.sureAddr, storeVar, h.sz, Value.cells, hvm, hs]
end
def insE (a : Option Addr) (c : Nat) (l : List IRow) : Ent := Ent.vec a l.length c 71 8 (l.flatMap rowC)
theorem reverseI_c (a : Option Addr) (c : Nat) (l : List IRow) (hlen : l.length ≤ 100000) (w : World) (hw : Wd (fps [insE a c l]) w [insE a c l] w) :
    Ret Tryd.prog 98 [.slice a l.length c] w fun u w' => ∃ _ : Unit, u = .tuple #[] ∧ Wd (fps [insE a c l]) w [insE a c l.reverse] w' ∧ True := by
  refine ret_enter Tryd.func98 rfl Tryd.ntmps98 rfl hw ?_
  generalize fps [insE a c l] = SS
  unfold insE
  repeat (first | refine g_op rfl ?_ | refine g_then ?_ | refine g_nil ?_ | refine g_region ?_ | refine g_seq ?_ | refine g_block ?_ | refine g_sub rfl (by omega) (by omega) ?_)
  refine g_loop (fun (x : Nat × Int × Option Addr × List IRow) => x.2.1 = (l.length : Int) - 1 - x.1 ∧ x.1 ≤ l.length ∧ x.2.2.2.length = l.length ∧ x.2.2.1 = a ∧ ∀ k, k < l.length → x.2.2.2[k]? = if k < x.1 ∨ (l.length : Int) - 1 - x.1 < k then l[l.length - 1 - k]? else l[k]?) (fun x => [(2, .int .i64 x.1), (3, .int .i64 x.2.1), (0, .slice x.2.2.1 l.length c)])
    (fun x => [Ent.vec x.2.2.1 l.length c 71 8 (x.2.2.2.flatMap rowC)]) (fun x => l.length - x.1) (0, (l.length : Int) - 1, a, l) ⟨by simp, Nat.zero_le _, rfl, rfl, fun k hk => by rw [if_neg (by simp only; omega)]⟩ (g_done (by repeat (first | exact trivial | refine ⟨rfl, ?_⟩)) (List.Sublist.refl _)) fun x ⟨hj, hi, hl, ha, hall⟩ => ?_
  obtain ⟨i, j, a', l'⟩ := x
  simp only at hj hi hl ha hall ⊢
  repeat (first | refine g_op rfl ?_ | refine g_then ?_ | refine g_nil ?_ | refine g_region ?_ | refine g_seq ?_)
  refine g_cond (fun h1 => ?_) (fun h1 => ?_)
  · have hlt : (i : Int) < j := by simpa using h1
    obtain ⟨jn, rfl⟩ : ∃ jn : Nat, j = jn := ⟨j.toNat, by omega⟩
    refine g_vec 0 rfl (by omega) fun rb ro hra => ?_
    obtain ⟨x, hx⟩ : ∃ x, l'[i]? = some x := ⟨_, List.getElem?_eq_getElem (by omega)⟩
    obtain ⟨y, hy⟩ : ∃ y, l'[jn]? = some y := ⟨_, List.getElem?_eq_getElem (by omega)⟩
    rw [hra]
    have hli : LtIs i l.length := ⟨by omega⟩
    have hlj : LtIs jn l.length := ⟨by omega⟩
    have hox : OwnAgg [Ent.vec (some ⟨rb, ro, none⟩) l.length c 71 8 (l'.flatMap rowC)] rb (ro + i * 8) _ := ownAgg (k := 0) rfl rowC_len hx
    have hoy : OwnAgg [Ent.vec (some ⟨rb, ro, none⟩) l.length c 71 8 (l'.flatMap rowC)] rb (ro + jn * 8) _ := ownAgg (k := 0) rfl rowC_len hy
    simp only [rowC] at hox hoy
    repeat (first | refine g_then ?_ | refine g_seq ?_ | refine g_block ?_ | refine g_skip ?_)
    refine g_drawX [] (fun _ : Unit => True) (fun _ => [(2, .int .i64 i), (3, .int .i64 jn), (0, .slice (some ⟨rb, ro, none⟩) l.length c)]) (fun _ => [Ent.vec (some ⟨rb, ro, none⟩) l.length c 71 8 (((l'.set i y).set jn x).flatMap rowC)]) mixed (List.nil_sublist _) ?_ fun _ _ => ?_
    · skip
      refine h_take 0 rfl (by decide +kernel) (List.nil_sublist _) ?_
      refine h_take 1 rfl (by decide +kernel) (List.nil_sublist _) ?_
      refine h_take 2 rfl (by decide +kernel) (List.nil_sublist _) ?_
      refine h_take 3 rfl (by decide +kernel) (List.nil_sublist _) ?_
      refine h_take 4 rfl (by decide +kernel) (List.nil_sublist _) ?_
      refine h_take 5 rfl (by decide +kernel) (List.nil_sublist _) ?_
      refine h_take 6 rfl (by decide +kernel) (List.nil_sublist _) ?_
      refine h_take 8 rfl (by decide +kernel) (List.nil_sublist _) ?_
      refine h_take 9 rfl (by decide +kernel) (List.nil_sublist _) ?_
      refine h_take 10 rfl (by decide +kernel) (List.nil_sublist _) ?_
      refine h_two 7 11 (by decide +kernel) ?_ ?_
      · skip
        refine o_op 7 rfl (List.nil_sublist _) ?_
        refine h_one 11 (by decide +kernel) ?_
        refine o_op 11 rfl (List.nil_sublist _) ?_
        refine h_take 12 rfl (by decide +kernel) (List.nil_sublist _) ?_
        refine h_one 13 (by decide +kernel) ?_
        refine o_storeVA 13 0 (j := i * 8) rfl rfl (by rw [flat_len rowC_len]; omega) (List.nil_sublist _) ?_
        rw [show [Value.int .i64 y.x.op, .int .i64 y.x.dst, .bool y.x.a.reg, .int .i64 y.x.a.n, .bool y.x.b.reg, .int .i64 y.x.b.n, .int .i64 y.x.fn, .slice y.a y.x.args.length y.c] = rowC y from rfl, flat_put rowC_len (by omega)]
        simp only [List.set_cons_zero]
        refine h_take 14 rfl (by decide +kernel) (List.nil_sublist _) ?_
        refine h_one 15 (by decide +kernel) ?_
        refine o_storeVA 15 0 (j := jn * 8) rfl rfl (by rw [flat_len rowC_len, List.length_set]; omega) (List.nil_sublist _) ?_
        rw [show [Value.int .i64 x.x.op, .int .i64 x.x.dst, .bool x.x.a.reg, .int .i64 x.x.a.n, .bool x.x.b.reg, .int .i64 x.x.b.n, .int .i64 x.x.fn, .slice x.a x.x.args.length x.c] = rowC x from rfl, flat_put rowC_len (by rw [List.length_set]; omega)]
        simp only [List.set_cons_zero]
        refine h_end (by decide +kernel) ?_
        exact g_mem () trivial (by repeat (first | exact trivial | refine ⟨rfl, ?_⟩)) (List.Sublist.refl _)
      · skip
        refine o_op 11 rfl (List.nil_sublist _) ?_
        refine h_one 7 (by decide +kernel) ?_
        refine o_op 7 rfl (List.nil_sublist _) ?_
        refine h_take 12 rfl (by decide +kernel) (List.nil_sublist _) ?_
        refine h_one 13 (by decide +kernel) ?_
        refine o_storeVA 13 0 (j := i * 8) rfl rfl (by rw [flat_len rowC_len]; omega) (List.nil_sublist _) ?_
        rw [show [Value.int .i64 y.x.op, .int .i64 y.x.dst, .bool y.x.a.reg, .int .i64 y.x.a.n, .bool y.x.b.reg, .int .i64 y.x.b.n, .int .i64 y.x.fn, .slice y.a y.x.args.length y.c] = rowC y from rfl, flat_put rowC_len (by omega)]
        simp only [List.set_cons_zero]
        refine h_take 14 rfl (by decide +kernel) (List.nil_sublist _) ?_
        refine h_one 15 (by decide +kernel) ?_
        refine o_storeVA 15 0 (j := jn * 8) rfl rfl (by rw [flat_len rowC_len, List.length_set]; omega) (List.nil_sublist _) ?_
        rw [show [Value.int .i64 x.x.op, .int .i64 x.x.dst, .bool x.x.a.reg, .int .i64 x.x.a.n, .bool x.x.b.reg, .int .i64 x.x.b.n, .int .i64 x.x.fn, .slice x.a x.x.args.length x.c] = rowC x from rfl, flat_put rowC_len (by rw [List.length_set]; omega)]
        simp only [List.set_cons_zero]
        refine h_end (by decide +kernel) ?_
        exact g_mem () trivial (by repeat (first | exact trivial | refine ⟨rfl, ?_⟩)) (List.Sublist.refl _)
    · repeat (first | refine g_op rfl ?_ | refine g_then ?_ | refine g_nil ?_ | refine g_region ?_ | refine g_opS rfl ?_ | refine g_inBlock ?_ | refine g_add rfl (by omega) (by omega) ?_ | refine g_sub rfl (by omega) (by omega) ?_)
      refine g_next (i + 1, (jn : Int) - 1, some ⟨rb, ro, none⟩, (l'.set i y).set jn x) ⟨by simp only; omega, by simp only; omega, by simpa using hl, by rw [← hra]; exact ha, fun k hk => ?_⟩ (by simp only; omega) (by repeat (first | exact trivial | refine ⟨rfl, ?_⟩)) (List.Sublist.refl _)
      have := rev_swapA hl (by omega) (by omega) (fun k hk => by
        rw [hall k hk]
        by_cases e : k < i ∨ jn < k
        · rw [if_pos e, if_pos (by omega)]
        · rw [if_neg e, if_neg (by omega)]) hx hy k hk
      rw [this]
      by_cases e : k < i + 1 ∨ jn - 1 < k
      · rw [if_pos e, if_pos (by simp only; omega)]
      · rw [if_neg e, if_neg (by simp only; omega)]
  · have hge : l' = l.reverse := rev_doneA hl (by simp at h1; omega) hall
    repeat (first | refine g_exit ?_ | refine g_thenExit ?_ | refine g_exitHere ?_)
    refine g_end0 rfl fun w' hw' => ⟨(), rfl, ?_, trivial⟩
    rw [← hge, ← ha, hl]
    exact hw'
end Go.Proofs.YtbmnkjaelfjlhaaDoor


/- slices.DeleteFunc of phis whose registers nobody needs. -/
namespace Go.Proofs.YtbmnkjaelfjlhaaDoor
open Go Go.RowKit
attribute [local irreducible] wpListIn Code.wpIn Exit.then Exit.inBlock bodyPost wpQuiet wpAnyIn wpAnyH oneH
set_option maxHeartbeats 4000000

section
variable {P : Program} {ro : Option Nat} {N : Nat} {ds : List Deferred} {S : Nat → Prop} {w0 : World} {L : List (Nat × Value)} {H : List Ent} {ops : Array Oper} {rest : List Oper} {Q : Exit → Act → World → Prop} {x : Operand}
/-- clear of elements of the call's own -/
theorem g_clearN {ty T e s by' : Nat} {zs : List Value} {pos : String} {aft : Array Go.Edge} (k : Nat) {b o off j n c c2 m : Nat} {xs : List Value} [h : ElemInfo P T e s by' zs] [hx : Ev L x (.slice (some ⟨b, off, none⟩) m c2)]
    (hk : H[k]? = some (Ent.vec (some ⟨b, o, none⟩) n c e s xs)) (hoff : off = o + j * s) (hm : 0 < m) (hj : j + m ≤ n) (hzl : zs.length = s) (h0 : 0 < s) (h1 : ∀ v ∈ zs, v.oneCell' = true)
    (kk : ∀ vs : List Value, vs.length = m * s → G N ds S w0 L (H.set k (Ent.vec (some ⟨b, o, none⟩) n c e s (xs.take (j * s) ++ vs ++ xs.drop (j * s + m * s)))) (wpListIn (FW ro) 0 P ops Q rest)) :
    G N ds S w0 L H (wpListIn (FW ro) 0 P ops Q (⟨none, .call { callee := .builtin .clear, args := #[x], argTypes := #[T] }, ty, pos, aft, none⟩ :: rest)) := by
  intro a w hS
  subst hoff
  obtain ⟨m, rfl⟩ : ∃ q, m = q + 1 := ⟨m - 1, by omega⟩
  obtain ⟨hl, hnc, hcm, pre, sp, _, hsp, hb⟩ := hS.wd.vecAt hk
  obtain ⟨inf, zv, hinf, hzv, hcs, h2, h3⟩ := h.get
  subst h2
  have hjs : j * inf.size + (m + 1) * inf.size ≤ n * inf.size := by rw [← Nat.add_mul]; exact Nat.mul_le_mul_right _ hj
  obtain ⟨vs, hvs⟩ : ∃ vs, vs = (List.range ((m + 1) * inf.size)).map fun i => zs[i % zs.length]?.getD default := ⟨_, rfl⟩
  have hvl : vs.length = (m + 1) * inf.size := by rw [hvs]; simp
  have hv1 : ∀ v ∈ vs, v.oneCell' = true := fun v hv => by
    rw [hvs] at hv
    obtain ⟨i, _, rfl⟩ := List.mem_map.1 hv
    have hlt : i % zs.length < zs.length := Nat.mod_lt _ (by omega)
    rw [List.getElem?_eq_getElem hlt, Option.getD_some]
    exact h1 _ (List.getElem_mem hlt)
  obtain ⟨w', hw', hW'⟩ := hS.wd.writeAt (P := P) hk (j * inf.size) (vs := vs) hv1 (by omega)
  rw [hvl] at hW'
  refine step_val (v := .tuple #[]) (w' := w') rfl (fun _ h => by cases h) ?_ (kk vs hvl _ _ ⟨hS.fr, hW'⟩)
  rw [hvs, show (m + 1) * inf.size = (m + 1) * zs.length by rw [hzl]] at hw'
  simp [execOp, resolve, invoke, builtin, hx.eq _ _ _ hS.fr, Builtin.clear_, run_underlying h.und, zeroValue, typeInfo, hinf, hzv, hcs, Builtin.zeroCells, hw']
end
/-- does the closure want it away? -/
theorem once1_c (q : Nat) (sa : Option Addr) (R sc : Nat) (s : List Bool) (hs : s.length = R) (d : Int) (h0 : 0 ≤ d) (hd : d < R) (pv : Value) (w0 : World) (hc : CellsAt w0 q 0 [.slice sa R sc]) (hsl : SlAt w0 (.slice sa R sc) 1 s BoolV) :
    RetV Tryd.prog 100 [.agg #[.int .i64 d, pv], .pointer (some ⟨q, 0, none⟩)] w0 (.bool (!getB s d)) := by
  obtain ⟨dn, rfl⟩ : ∃ dn : Nat, d = dn := ⟨d.toNat, by omega⟩
  obtain ⟨_, _, _, sb, so, hsa, hsel⟩ := hsl.at
  obtain ⟨b, hb⟩ : ∃ b, s[dn]? = some b := ⟨_, List.getElem?_eq_getElem (by omega)⟩
  have had : AddrIs sa sb so := ⟨hsa (ne_of_get hb)⟩
  obtain ⟨_, hcs, rfl⟩ := hsel dn b hb
  have hci : CellsIs w0 sb (so + dn * 1) _ := ⟨hcs⟩
  have hcq : CellsIs w0 q 0 _ := ⟨hc⟩
  have hlt : LtIs dn R := ⟨by omega⟩
  have hgb : getB s (dn : Int) = b := by unfold getB; rw [Int.toNat_natCast, List.getD_eq_getElem?_getD, hb]; rfl
  refine ret_enter Tryd.func100 rfl Tryd.ntmps100 rfl (Wd.nil NoS w0) ?_
  repeat (first | refine g_op rfl ?_ | refine g_then ?_ | refine g_nil ?_ | refine g_region ?_ | refine g_seq ?_ | refine g_opS rfl ?_ | refine g_box rfl fun _ _ => ?_ | refine g_ret ?_)
  rw [hgb]
  exact g_retV rfl rfl
def phVec (a : Option Addr) (c : Nat) (l : List PRow) : Ent := Ent.vec a l.length c 69 2 (l.flatMap phiC)
def keepP (s : List Bool) (p : PRow) : Bool := getB s p.dst
/-- the place of the first that goes -/
def firstGo (s : List Bool) (l : List PRow) : Int := match l.findIdx? (fun p => !keepP s p) with | some i => (i : Int) | none => -1
theorem indexPhi_c (q : Nat) (sa : Option Addr) (R sc : Nat) (s : List Bool) (hs : s.length = R) (v : Value) (l : List PRow) (hd : ∀ p ∈ l, 0 ≤ p.dst ∧ p.dst < R) (w0 : World) (hv : SlAt w0 v 2 l PhiC) (hc : CellsAt w0 q 0 [.slice sa R sc]) (hsl : SlAt w0 (.slice sa R sc) 1 s BoolV) :
    RetV Tryd.prog 145 [v, .func (.func 100) #[] #[.pointer (some ⟨q, 0, none⟩)]] w0 (.int .i64 (firstGo s l)) := by
  obtain ⟨va, vn, vc, vb, vo, rfl, rfl, _, _, _, hva, hvel⟩ := hv
  refine ret_enter Tryd.func145 rfl Tryd.ntmps145 rfl (Wd.nil NoS w0) ?_
  repeat (first | refine g_op rfl ?_ | refine g_then ?_ | refine g_nil ?_ | refine g_region ?_ | refine g_seq ?_ | refine g_block ?_)
  refine g_loop (fun (i : Nat) => i ≤ l.length ∧ ∀ (j : Nat) p, j < i → l[j]? = some p → keepP s p = true) (fun i => [(8, .int .i64 i), (7, .int .i64 l.length), (0, .slice va l.length vc), (1, .func (.func 100) #[] #[.pointer (some ⟨q, 0, none⟩)])]) (fun _ => []) (fun i => l.length - i) 0 ⟨Nat.zero_le _, fun j p hj => by omega⟩ (g_done (by repeat (first | exact trivial | refine ⟨rfl, ?_⟩)) (by simp)) fun i ⟨hi, hall⟩ => ?_
  repeat (first | refine g_op rfl ?_ | refine g_then ?_ | refine g_nil ?_ | refine g_region ?_ | refine g_seq ?_)
  refine g_cond (fun h2 => ?_) (fun h2 => ?_)
  · have hlt : i < l.length := by simpa using h2
    obtain ⟨p, hp⟩ : ∃ p, l[i]? = some p := ⟨_, List.getElem?_eq_getElem hlt⟩
    have had : AddrIs va vb vo := ⟨hva (ne_of_get hp)⟩
    have hli : LtIs i l.length := ⟨hlt⟩
    obtain ⟨_, hcs, rfl⟩ := hvel i p hp
    have hdp := hd p (List.mem_of_getElem? hp)
    obtain ⟨pd, pa, pc, pl⟩ := p
    simp only [phiC] at hcs hdp
    have hci : CellsIs w0 vb (vo + i * 2) _ := ⟨hcs⟩
    repeat (first | refine g_op rfl ?_ | refine g_then ?_ | refine g_nil ?_ | refine g_region ?_ | refine g_seq ?_ | refine g_block ?_ | refine g_skip ?_)
    refine g_callFV rfl (fun w hw => by exact once1_c q sa R sc s hs pd hdp.1 hdp.2 _ w (hc.keep hw.chg) (hsl.keep keeps_bool hw.chg)) ?_
    repeat (first | refine g_then ?_ | refine g_nil ?_)
    cases hk : getB s pd
    · rw [Bool.not_false]
      repeat (first | refine g_op rfl ?_ | refine g_then ?_ | refine g_nil ?_ | refine g_region ?_ | refine g_seq ?_ | refine g_condT ?_ | refine g_ret ?_ | refine g_thenRet ?_ | refine g_blockRet ?_)
      refine g_retV rfl ?_
      have : l.findIdx? (fun p => !keepP s p) = some i := by
        rw [List.findIdx?_eq_some_iff_getElem]
        refine ⟨hlt, ?_, fun j hj => ?_⟩
        · rw [(List.getElem?_eq_some_iff.1 hp).2]
          simp [keepP, hk]
        · have := hall j _ hj (List.getElem?_eq_getElem (by omega))
          simp [this]
      unfold firstGo
      rw [this]
    · rw [Bool.not_true]
      repeat (first | refine g_then ?_ | refine g_nil ?_ | refine g_region ?_ | refine g_opS rfl ?_ | refine g_inBlock ?_ | refine g_skip ?_ | refine g_condF ?_ | refine g_add rfl (by omega) (by omega) ?_)
      rw [show (i : Int) + 1 = ((i + 1 : Nat) : Int) by omega]
      refine g_next (i + 1) ⟨hlt, fun j p hj hjp => ?_⟩ (by omega) (by repeat (first | exact trivial | refine ⟨rfl, ?_⟩)) (List.Sublist.refl _)
      by_cases e : j = i
      · subst e
        rw [hp] at hjp
        rw [← Option.some.inj hjp]
        exact hk
      · exact hall j p (by omega) hjp
  have hge : i = l.length := by have := h2; simp at this; omega
  repeat (first | refine g_op rfl ?_ | refine g_then ?_ | refine g_nil ?_ | refine g_region ?_ | refine g_seq ?_ | refine g_exit ?_ | refine g_thenExit ?_ | refine g_exitHere ?_ | refine g_ret ?_)
  refine g_retV rfl ?_
  have : l.findIdx? (fun p => !keepP s p) = none := by
    rw [List.findIdx?_eq_none_iff]
    intro p hp
    obtain ⟨j, hj⟩ := List.getElem?_of_mem hp
    rw [hall j p (by have := (List.getElem?_eq_some_iff.1 hj).1; omega) hj]
    rfl
  unfold firstGo
  rw [this]
theorem filter_take_succ {α : Type} {p : α → Bool} {l : List α} {j : Nat} {x : α} (h : l[j]? = some x) : (l.take (j + 1)).filter p = (l.take j).filter p ++ (if p x then [x] else []) := by
  rw [List.take_add_one, h, List.filter_append]
  congr 1
  cases e : p x <;> simp [e]
theorem filter_all {α : Type} {p : α → Bool} {l : List α} (h : ∀ x ∈ l, p x = true) : l.filter p = l := List.filter_eq_self.2 h
theorem deletePhi_c (q : Nat) (sa : Option Addr) (R sc : Nat) (s : List Bool) (hs : s.length = R) (pa : Option Addr) (pc : Nat) (l : List PRow) (hlen : l.length ≤ 1000) (hd : ∀ p ∈ l, 0 ≤ p.dst ∧ p.dst < R) (wz w : World) (hcl : Clean (fps [phVec pa pc l]) wz) (hc : CellsAt wz q 0 [.slice sa R sc]) (hsl : SlAt wz (.slice sa R sc) 1 s BoolV) (hw : Wd (fps [phVec pa pc l]) wz [phVec pa pc l] w) :
    Ret Tryd.prog 99 [.slice pa l.length pc, .func (.func 100) #[] #[.pointer (some ⟨q, 0, none⟩)]] w fun u w' => u = .slice pa (l.filter (keepP s)).length pc ∧ Wd (fps [phVec pa pc l]) wz [phVec pa pc (l.filter (keepP s))] w' := by
  have hcl0 := hcl
  have hkp : ∀ {E : List Ent} {w : World}, Wd (fps [phVec pa pc l]) wz E w → CellLe wz w := fun hw => hcl0.now hw
  generalize fps [phVec pa pc l] = SS at *
  have hbd : ∀ {H : List Ent} {w : World}, Wd SS wz (phVec pa pc l :: H) w → SlAt w (.slice pa l.length pc) 2 l PhiC := fun hw => flat_sl hw (k := 0) rfl phiC_len (by omega)
  have hmb : MonoV BoolV := fun _ _ _ _ _ h => h
  refine ret_enterZ Tryd.func99 rfl Tryd.ntmps99 rfl hw ?_
  repeat (first | refine g_op rfl ?_ | refine g_then ?_ | refine g_nil ?_ | refine g_region ?_ | refine g_seq ?_)
  refine g_callV rfl (fun w hw => indexPhi_c q sa R sc s hs _ l hd w (hbd hw) (hc.le (hkp hw)) (hsl.le hmb (hkp hw))) ?_
  cases hg : l.findIdx? (fun p => !keepP s p) with
  | none =>
    have hf : l.filter (keepP s) = l := filter_all fun p hp => by
      have := (List.findIdx?_eq_none_iff.1 hg) p hp
      simpa using this
    rw [show firstGo s l = -1 by unfold firstGo; rw [hg]]
    repeat (first | refine g_op rfl ?_ | refine g_then ?_ | refine g_nil ?_ | refine g_region ?_ | refine g_seq ?_ | refine g_opS rfl ?_ | refine g_condT ?_ | refine g_ret ?_ | refine g_thenRet ?_)
    rw [show decide ((-1 : Int) = -1) = true by decide]
    skip
    refine g_ret1 rfl fun w hw => ?_
    rw [hf]
    exact ⟨rfl, hw⟩
  | some i0 =>
    obtain ⟨hi0, hgo, hst⟩ := List.findIdx?_eq_some_iff_getElem.1 hg
    rw [show firstGo s l = (i0 : Int) by unfold firstGo; rw [hg]]
    repeat (first | refine g_op rfl ?_ | refine g_then ?_ | refine g_nil ?_ | refine g_region ?_ | refine g_seq ?_ | refine g_block ?_ | refine g_skip ?_ | refine g_condF ?_ | refine g_add rfl (by omega) (by omega) ?_)
    rw [show decide ((i0 : Int) = -1) = false by simp only [decide_eq_false_iff_not]; omega]
    skip
    unfold phVec
    refine g_vec 0 rfl (by omega) fun pb po hpa => ?_
    subst hpa
    refine g_vecLe 0 rfl fun _ hnc hc63 => ?_
    have hfi : l.take i0 = (l.take (i0 + 1)).filter (keepP s) := by
      have hx : l[i0]? = some l[i0] := List.getElem?_eq_getElem hi0
      rw [filter_take_succ hx, filter_all fun p hp => ?_]
      · have : keepP s l[i0] = false := by simpa using hgo
        rw [this]
        simp
      · obtain ⟨j, hj⟩ := List.getElem?_of_mem hp
        have hjl : j < i0 := by have := (List.getElem?_eq_some_iff.1 hj).1; rw [List.length_take] at this; omega
        rw [List.getElem?_take_of_lt hjl] at hj
        have := hst j hjl
        rw [(List.getElem?_eq_some_iff.1 hj).2] at this
        simpa using this
    refine g_loop (fun (x : Nat × Nat × List PRow) => x.2.1 < x.1 ∧ x.1 ≤ l.length ∧ x.2.2.length = l.length ∧ x.2.2.take x.2.1 = (l.take x.1).filter (keepP s) ∧ x.2.2.drop x.1 = l.drop x.1) (fun x => [(6, .int .i64 x.1), (5, .int .i64 x.2.1), (0, .slice (some ⟨pb, po, none⟩) l.length pc), (1, .func (.func 100) #[] #[.pointer (some ⟨q, 0, none⟩)])]) (fun x => [Ent.vec (some ⟨pb, po, none⟩) l.length pc 69 2 (x.2.2.flatMap phiC)]) (fun x => l.length - x.1) (i0 + 1, i0, l) ⟨by simp only; omega, hi0, rfl, hfi, rfl⟩ (g_done (by repeat (first | exact trivial | refine ⟨rfl, ?_⟩)) (List.Sublist.refl _)) fun x ⟨h1, h2, h3, h4, h5⟩ => ?_
    obtain ⟨j, i, rows⟩ := x
    simp only at h1 h2 h3 h4 h5 ⊢
    repeat (first | refine g_op rfl ?_ | refine g_then ?_ | refine g_nil ?_ | refine g_region ?_ | refine g_seq ?_)
    refine g_cond (fun h6 => ?_) (fun h6 => ?_)
    · have hlt : j < l.length := by simpa using h6
      obtain ⟨p, hp⟩ : ∃ p, l[j]? = some p := ⟨_, List.getElem?_eq_getElem hlt⟩
      have hpr : rows[j]? = some p := by
        have h7 := congrArg (fun m => m[0]?) h5
        simp only [List.getElem?_drop, Nat.add_zero] at h7
        rw [h7, hp]
      have hli : LtIs j l.length := ⟨hlt⟩
      have hlk : LtIs i l.length := ⟨by omega⟩
      have hdp := hd p (List.mem_of_getElem? hp)
      have hoa : OwnAgg [Ent.vec (some ⟨pb, po, none⟩) l.length pc 69 2 (rows.flatMap phiC)] pb (po + j * 2) (phiC p) := ownAgg (k := 0) rfl phiC_len hpr
      simp only [phiC] at hoa
      repeat (first | refine g_op rfl ?_ | refine g_then ?_ | refine g_nil ?_ | refine g_region ?_ | refine g_seq ?_ | refine g_alloc rfl fun _ _ => ?_ | refine g_storeAgg ?_ | refine g_block ?_ | refine g_skip ?_)
      rename_i p7 _
      refine g_callFV rfl (fun w hw => by exact once1_c q sa R sc s hs p.dst hdp.1 hdp.2 _ w (hc.le (hkp hw)) (hsl.le hmb (hkp hw))) ?_
      repeat (first | refine g_op rfl ?_ | refine g_then ?_ | refine g_nil ?_)
      have hfs := filter_take_succ (p := keepP s) hp
      have hd2 : ∀ m : List PRow, m.length = l.length → m.drop j = l.drop j → m.drop (j + 1) = l.drop (j + 1) := fun m _ h => by
        have h7 := congrArg (List.drop 1) h
        rwa [List.drop_drop, List.drop_drop] at h7
      cases hk : getB s p.dst
      · rw [Bool.not_false]
        repeat (first | refine g_op rfl ?_ | refine g_then ?_ | refine g_nil ?_ | refine g_region ?_ | refine g_opS rfl ?_ | refine g_inBlock ?_ | refine g_skip ?_ | refine g_condF ?_ | refine g_add rfl (by omega) (by omega) ?_)
        rw [show (j : Int) + 1 = ((j + 1 : Nat) : Int) by omega]
        refine g_next (j + 1, i, rows) ⟨by simp only; omega, hlt, h3, ?_, hd2 rows h3 h5⟩ (by simp only; omega) (by repeat (first | exact trivial | refine ⟨rfl, ?_⟩)) (List.Sublist.cons _ (List.Sublist.refl _))
        have : keepP s p = false := hk
        simp only
        rw [hfs, this, h4]
        simp
      · rw [Bool.not_true]
        repeat (first | refine g_op rfl ?_ | refine g_region ?_ | refine g_seq ?_ | refine g_condT ?_)
        refine g_storeVA 1 (j := i * 2) rfl rfl (by rw [flat_len phiC_len]; omega) ?_
        rw [show [Value.int .i64 p.dst, .slice p.a p.l.length p.c] = phiC p from rfl, flat_put phiC_len (by omega)]
        simp only [List.set_cons_zero, List.set_cons_succ]
        repeat (first | refine g_op rfl ?_ | refine g_then ?_ | refine g_nil ?_ | refine g_region ?_ | refine g_opS rfl ?_ | refine g_inBlock ?_ | refine g_add rfl (by omega) (by omega) ?_)
        rw [show (j : Int) + 1 = ((j + 1 : Nat) : Int) by omega, show (i : Int) + 1 = ((i + 1 : Nat) : Int) by omega]
        refine g_next (j + 1, i + 1, rows.set i p) ⟨by simp only; omega, hlt, by simp only [List.length_set]; exact h3, ?_, ?_⟩ (by simp only; omega) (by repeat (first | exact trivial | refine ⟨rfl, ?_⟩)) (List.Sublist.cons _ (List.Sublist.refl _))
        · have : keepP s p = true := hk
          simp only
          rw [hfs, this, ← h4, List.take_add_one, List.getElem?_set, if_pos rfl, if_pos (by omega), List.take_set, List.set_eq_of_length_le (by rw [List.length_take]; omega)]
          simp
        · simp only
          rw [List.drop_set_of_lt (by omega)]
          exact hd2 rows h3 h5
    have hje : j = l.length := by have := h6; simp at this; omega
    rw [hje, List.take_length] at h4
    have hfl : (l.filter (keepP s)).length = i := by rw [← h4, List.length_take]; omega
    have hco : CutOk i l.length pc := ⟨by omega, by omega⟩
    have hch : CutHi i pc := ⟨by omega⟩
    repeat (first | refine g_op rfl ?_ | refine g_then ?_ | refine g_region ?_ | refine g_seq ?_ | refine g_exit ?_ | refine g_thenExit ?_ | refine g_exitHere ?_)
    refine g_clearN 0 (j := i) rfl rfl (by omega) (by omega) rfl (by omega) (by decide) fun vs hvs => ?_
    simp only [List.set_cons_zero]
    repeat (first | refine g_op rfl ?_ | refine g_then ?_ | refine g_nil ?_ | refine g_region ?_ | refine g_seq ?_ | refine g_ret ?_)
    refine g_shrink 0 rfl i (by omega) ?_
    simp only [List.set_cons_zero]
    refine g_ret1 rfl fun w hw => ?_
    rw [hfl]
    refine ⟨rfl, ?_⟩
    have hcut : (rows.flatMap phiC).take (i * 2) = (l.filter (keepP s)).flatMap phiC := by rw [(flat_cut phiC_len rows i).1, h4]
    have hlv : ((rows.flatMap phiC).take (i * 2)).length = i * 2 := by rw [List.length_take, flat_len phiC_len]; omega
    rw [List.append_assoc, List.take_append_of_le_length (by omega), List.take_of_length_le (by omega), hcut] at hw
    exact hw
end Go.Proofs.YtbmnkjaelfjlhaaDoor

