/- Texts joined: LiveA LiveB LiveC DomB DomC DomD DomE. -/
import Derived.Test.YtebajiafdkokjaaDoorPkE
/- The live sets' small methods: take, list, Clone, Equal, Index, Place. What each does. -/
namespace Go.Proofs.YtebajiafdkokjaaDoor
open Go Go.RowKit
attribute [local irreducible] wpListIn Code.wpIn Exit.then Exit.inBlock bodyPost wpQuiet wpAnyIn
set_option maxHeartbeats 4000000

def vecB (a : Option Addr) (R c : Nat) (s : List Bool) : Ent := Ent.vec a R c 4 1 (s.map .bool)
theorem take_c (a : Option Addr) (R c : Nat) (s : List Bool) (hs : s.length = R) (v : LVal) (hv : ValOk R v) (w : World) (hw : Wd (fps [vecB a R c s]) w [vecB a R c s] w) :
    Ret Tryd.prog 75 [.slice a R c, .agg #[.bool v.reg, .int .i64 v.n]] w fun u w' => ∃ _ : Unit, u = .tuple #[] ∧ Wd (fps [vecB a R c s]) w [vecB a R c (takeV s v)] w' ∧ True := by
  refine ret_enter Tryd.func75 rfl Tryd.ntmps75 rfl hw ?_
  generalize fps [vecB a R c s] = SS
  unfold vecB
  repeat (first | refine g_op rfl ?_ | refine g_then ?_ | refine g_nil ?_ | refine g_region ?_ | refine g_seq ?_ | refine g_box rfl fun _ _ => ?_)
  unfold takeV
  unfold ValOk at hv
  generalize v.reg = b at hv
  cases b
  · repeat (first | refine g_skip ?_ | refine g_condF ?_)
    exact g_end0 rfl fun w' hw' => ⟨(), rfl, hw'.sel [1] (by decide), trivial⟩
  · obtain ⟨k, hk⟩ : ∃ k : Nat, v.n = k := ⟨v.n.toNat, by have := hv rfl; omega⟩
    have hkR : k < R := by have := hv rfl; omega
    obtain ⟨y, hy⟩ : ∃ y, s[k]? = some y := ⟨_, List.getElem?_eq_getElem (by omega)⟩
    refine g_vec 1 rfl (by omega) fun vb vo hva => ?_
    subst hva
    have hli : LtIs k R := ⟨hkR⟩
    have hea : ElAt s k y := ⟨hy⟩
    have hni : NatIs v.n k := ⟨hk⟩
    repeat (first | refine g_op rfl ?_ | refine g_nil ?_ | refine g_region ?_ | refine g_condT ?_ | refine g_storeV ?_)
    refine g_end0 rfl fun w' hw' => ⟨(), rfl, ?_, trivial⟩
    rw [if_pos rfl, show v.n.toNat = k by omega]
    exact hw'.sel [1] (by decide)
theorem idxOf_le {x : Nat} : ∀ {l : List Nat} {i : Nat}, l[i]? = some x → l.idxOf x ≤ i
  | [], i, h => by simp at h
  | y :: l, 0, h => by
    simp only [List.getElem?_cons_zero, Option.some.injEq] at h
    subst h
    simp
  | y :: l, i + 1, h => by
    rw [List.idxOf_cons]
    cases (y == x)
    · have := idxOf_le (l := l) (i := i) (by simpa using h)
      simpa using this
    · simp
theorem place_c (v : Value) (l : List Nat) (x : Nat) (w0 : World) (hx : x ∈ l) (hv : SlAt w0 v 1 (l.map fun x : Nat => (x : Int)) IntV) : RetV Tryd.prog 134 [v, .int .i64 x] w0 (.int .i64 (l.idxOf x : Nat)) := by
  obtain ⟨a, n, c, b, o, rfl, hn, hnc, hnb, hc, ha, hel⟩ := hv
  rw [List.length_map] at hn
  have hil := List.idxOf_lt_length_of_mem hx
  refine ret_enter Tryd.func134 rfl Tryd.ntmps134 rfl (Wd.nil NoS w0) ?_
  repeat (first | refine g_op rfl ?_ | refine g_then ?_ | refine g_nil ?_ | refine g_region ?_ | refine g_seq ?_ | refine g_block ?_)
  refine g_loop (fun (i : Nat) => i ≤ l.idxOf x) (fun i => [(5, .int .i64 i), (0, .slice a n c), (1, .int .i64 x)]) (fun _ => []) (fun i => n - i) 0 (Nat.zero_le _) (g_done (by repeat (first | exact trivial | refine ⟨rfl, ?_⟩)) (by simp)) fun i hi => ?_
  repeat (first | refine g_op rfl ?_ | refine g_then ?_ | refine g_nil ?_ | refine g_region ?_ | refine g_seq ?_)
  refine g_cond (fun h1 => ?_) (fun h1 => ?_)
  · have hlt : i < n := by simpa using h1
    obtain ⟨t, ht⟩ : ∃ t, l[i]? = some t := ⟨_, List.getElem?_eq_getElem (by omega)⟩
    have ht' : (l.map fun x : Nat => (x : Int))[i]? = some (t : Int) := by rw [List.getElem?_map, ht]; rfl
    have had : AddrIs a b o := ⟨ha (ne_of_get ht')⟩
    have hli : LtIs i n := ⟨hlt⟩
    obtain ⟨cs, hcs, rfl, _⟩ := hel i _ ht'
    have hci : CellsIs w0 b (o + i * 1) _ := ⟨hcs⟩
    repeat (first | refine g_op rfl ?_ | refine g_then ?_ | refine g_nil ?_ | refine g_region ?_ | refine g_seq ?_ | refine g_block ?_ | refine g_skip ?_)
    refine g_cond (fun h2 => ?_) (fun h2 => ?_)
    · have h5 : (t : Int) = x := by simpa using h2
      have htx : t = x := by omega
      subst htx
      have : l.idxOf t = i := by
        have h4 := idxOf_le ht
        omega
      repeat (first | refine g_op rfl ?_ | refine g_then ?_ | refine g_nil ?_ | refine g_region ?_ | refine g_seq ?_ | refine g_ret ?_ | refine g_thenRet ?_ | refine g_blockRet ?_)
      exact g_retV rfl (by rw [this])
    · repeat (first | refine g_op rfl ?_ | refine g_then ?_ | refine g_nil ?_ | refine g_region ?_ | refine g_opS rfl ?_ | refine g_inBlock ?_ | refine g_skip ?_ | refine g_add rfl (by omega) (by omega) ?_)
      refine g_next (i + 1) ?_ (by omega) (by repeat (first | exact trivial | refine ⟨rfl, ?_⟩)) (by simp)
      refine Nat.lt_of_le_of_ne hi fun e => ?_
      subst e
      have h3 := List.getElem_idxOf hil
      have h4 := (List.getElem?_eq_some_iff.1 ht).2
      rw [h3] at h4
      simp [h4] at h2
  · exact absurd h1 (by simp; omega)
theorem index_c (v : Value) (l : List Nat) (x : Nat) (w0 : World) (hx : x ∈ l) (hv : SlAt w0 v 1 (l.map fun x : Nat => (x : Int)) IntV) : RetV Tryd.prog 123 [v, .int .i64 x] w0 (.int .i64 (l.idxOf x : Nat)) := by
  obtain ⟨a, n, c, b, o, rfl, hn, hnc, hnb, hc, ha, hel⟩ := hv
  rw [List.length_map] at hn
  have hil := List.idxOf_lt_length_of_mem hx
  refine ret_enter Tryd.func123 rfl Tryd.ntmps123 rfl (Wd.nil NoS w0) ?_
  repeat (first | refine g_op rfl ?_ | refine g_then ?_ | refine g_nil ?_ | refine g_region ?_ | refine g_seq ?_ | refine g_block ?_)
  refine g_loop (fun (i : Nat) => i ≤ l.idxOf x) (fun i => [(8, .int .i64 i), (6, .slice a n c), (7, .int .i64 n), (0, .slice a n c), (1, .int .i64 x)]) (fun _ => []) (fun i => n - i) 0 (Nat.zero_le _) (g_done (by repeat (first | exact trivial | refine ⟨rfl, ?_⟩)) (by simp)) fun i hi => ?_
  repeat (first | refine g_op rfl ?_ | refine g_then ?_ | refine g_nil ?_ | refine g_region ?_ | refine g_seq ?_)
  refine g_cond (fun h1 => ?_) (fun h1 => ?_)
  · have hlt : i < n := by simpa using h1
    obtain ⟨t, ht⟩ : ∃ t, l[i]? = some t := ⟨_, List.getElem?_eq_getElem (by omega)⟩
    have ht' : (l.map fun x : Nat => (x : Int))[i]? = some (t : Int) := by rw [List.getElem?_map, ht]; rfl
    have had : AddrIs a b o := ⟨ha (ne_of_get ht')⟩
    have hli : LtIs i n := ⟨hlt⟩
    obtain ⟨cs, hcs, rfl, _⟩ := hel i _ ht'
    have hci : CellsIs w0 b (o + i * 1) _ := ⟨hcs⟩
    repeat (first | refine g_op rfl ?_ | refine g_then ?_ | refine g_nil ?_ | refine g_region ?_ | refine g_seq ?_ | refine g_block ?_ | refine g_skip ?_)
    refine g_cond (fun h2 => ?_) (fun h2 => ?_)
    · have h5 : (x : Int) = t := by simpa using h2
      have htx : x = t := by omega
      subst htx
      have : l.idxOf x = i := by
        have h4 := idxOf_le ht
        omega
      repeat (first | refine g_op rfl ?_ | refine g_then ?_ | refine g_nil ?_ | refine g_region ?_ | refine g_seq ?_ | refine g_ret ?_ | refine g_thenRet ?_ | refine g_blockRet ?_)
      exact g_retV rfl (by rw [this])
    · repeat (first | refine g_then ?_ | refine g_nil ?_ | refine g_region ?_ | refine g_opS rfl ?_ | refine g_inBlock ?_ | refine g_skip ?_ | refine g_add rfl (by omega) (by omega) ?_)
      refine g_next (i + 1) ?_ (by omega) (by repeat (first | exact trivial | refine ⟨rfl, ?_⟩)) (by simp)
      refine Nat.lt_of_le_of_ne hi fun e => ?_
      subst e
      have h3 := List.getElem_idxOf hil
      have h4 := (List.getElem?_eq_some_iff.1 ht).2
      rw [h3] at h4
      simp [h4] at h2
  · exact absurd h1 (by simp; omega)
theorem equalB_c (a b : Value) (l m : List Bool) (w0 : World) (ha : SlAt w0 a 1 l BoolV) (hb : SlAt w0 b 1 m BoolV) : RetV Tryd.prog 106 [a, b] w0 (.bool (decide (l = m))) := by
  obtain ⟨aa, an, ac, ab, ao, rfl, han, hanc, hanb, hac, haa, hael⟩ := ha
  obtain ⟨ba, bn, bc, bb, bo, rfl, hbn, hbnc, hbnb, hbc, hba, hbel⟩ := hb
  refine ret_enter Tryd.func106 rfl Tryd.ntmps106 rfl (Wd.nil NoS w0) ?_
  repeat (first | refine g_op rfl ?_ | refine g_then ?_ | refine g_nil ?_ | refine g_region ?_ | refine g_seq ?_)
  refine g_cond (fun h1 => ?_) (fun h1 => ?_)
  · repeat (first | refine g_then ?_ | refine g_nil ?_ | refine g_region ?_ | refine g_seq ?_ | refine g_opS rfl ?_ | refine g_ret ?_ | refine g_thenRet ?_)
    refine g_retV rfl ?_
    rw [decide_eq_false]
    rintro rfl
    simp at h1; omega
  have hlen : an = bn := by simp at h1; omega
  repeat (first | refine g_op rfl ?_ | refine g_then ?_ | refine g_nil ?_ | refine g_region ?_ | refine g_seq ?_ | refine g_block ?_ | refine g_skip ?_)
  refine g_loop (fun (i : Nat) => i ≤ an ∧ ∀ j, j < i → l[j]? = m[j]?) (fun i => [(13, .int .i64 i), (11, .slice aa an ac), (12, .int .i64 an), (0, .slice aa an ac), (1, .slice ba bn bc)]) (fun _ => []) (fun i => an - i) 0 ⟨Nat.zero_le _, by simp⟩ (g_done (by repeat (first | exact trivial | refine ⟨rfl, ?_⟩)) (by simp)) fun i ⟨hi, hall⟩ => ?_
  repeat (first | refine g_op rfl ?_ | refine g_then ?_ | refine g_nil ?_ | refine g_region ?_ | refine g_seq ?_)
  refine g_cond (fun h2 => ?_) (fun h2 => ?_)
  · have hlt : i < an := by simpa using h2
    obtain ⟨x, hx⟩ := get_lt han hlt
    obtain ⟨y, hy⟩ := get_lt hbn (show i < bn by omega)
    have had : AddrIs aa ab ao := ⟨haa (ne_of_get hx)⟩
    have hbd : AddrIs ba bb bo := ⟨hba (ne_of_get hy)⟩
    have hli : LtIs i an := ⟨hlt⟩
    have hlj : LtIs i bn := ⟨by omega⟩
    obtain ⟨cs, hcs, rfl⟩ := hael i x hx
    obtain ⟨cs2, hcs2, rfl⟩ := hbel i y hy
    have hci : CellsIs w0 ab (ao + i * 1) _ := ⟨hcs⟩
    have hcj : CellsIs w0 bb (bo + i * 1) _ := ⟨hcs2⟩
    repeat (first | refine g_op rfl ?_ | refine g_then ?_ | refine g_nil ?_ | refine g_region ?_ | refine g_seq ?_ | refine g_block ?_ | refine g_skip ?_)
    refine g_draw mixed (by kernel_rfl) ?_
    repeat (first | refine q_op rfl ?_ | refine q_nil ?_)
    repeat (refine g_then ?_)
    refine g_cond (fun h3 => ?_) (fun h3 => ?_)
    · repeat (first | refine g_op rfl ?_ | refine g_then ?_ | refine g_nil ?_ | refine g_region ?_ | refine g_seq ?_ | refine g_ret ?_ | refine g_thenRet ?_ | refine g_blockRet ?_)
      refine g_retV rfl ?_
      rw [decide_eq_false]
      rintro rfl
      rw [hx] at hy
      simp only [Option.some.injEq] at hy
      simp [hy] at h3
    · have hxy : x = y := by simpa using h3
      repeat (first | refine g_then ?_ | refine g_nil ?_ | refine g_region ?_ | refine g_opS rfl ?_ | refine g_inBlock ?_ | refine g_skip ?_ | refine g_add rfl (by omega) (by omega) ?_)
      refine g_next (i + 1) ⟨hlt, fun j hj => ?_⟩ (by omega) (by repeat (first | exact trivial | refine ⟨rfl, ?_⟩)) (by simp)
      by_cases hji : j = i
      · subst hji; rw [hx, hy, hxy]
      · exact hall j (by omega)
  · have hge : i = an := by have := h2; simp at this; omega
    repeat (first | refine g_op rfl ?_ | refine g_then ?_ | refine g_nil ?_ | refine g_region ?_ | refine g_seq ?_ | refine g_exit ?_ | refine g_thenExit ?_ | refine g_exitHere ?_ | refine g_ret ?_)
    refine g_retV rfl ?_
    rw [decide_eq_true]
    apply List.ext_getElem?
    intro j
    by_cases hj : j < an
    · exact hall j (by omega)
    · rw [List.getElem?_eq_none (by omega), List.getElem?_eq_none (by omega)]
theorem cloneB_c (a : Option Addr) (R c : Nat) (l : List Bool) (hR : R ≤ 1000) (w0 : World) (hl : SlAt w0 (.slice a R c) 1 l BoolV) :
    Ret Tryd.prog 105 [.slice a R c] w0 fun u w' => ∃ x : Option Addr × Nat, u = .slice x.1 R x.2 ∧ Wd NoS w0 [vecB x.1 R x.2 l] w' ∧ True := by
  refine ret_enter Tryd.func105 rfl Tryd.ntmps105 rfl (Wd.nil NoS w0) ?_
  repeat (first | refine g_op rfl ?_ | refine g_then ?_ | refine g_nil ?_ | refine g_region ?_ | refine g_seq ?_)
  cases a with
  | none =>
    have hl0 : l = [] ∧ R = 0 := by
      obtain ⟨a', n, c', b, o, hv, hn, _, _, _, ha, _⟩ := hl
      simp only [Value.slice.injEq] at hv
      obtain ⟨rfl, rfl, rfl⟩ := hv
      have h0 : l = [] := Classical.byContradiction fun h => by cases ha h
      exact ⟨h0, by rw [hn, h0]; rfl⟩
    obtain ⟨rfl, rfl⟩ := hl0
    repeat (first | refine g_then ?_ | refine g_nil ?_ | refine g_region ?_ | refine g_seq ?_ | refine g_opS rfl ?_ | refine g_condT ?_ | refine g_ret ?_ | refine g_thenRet ?_)
    refine g_nilVec 4 1 ?_
    exact g_ret1 rfl fun w hw => ⟨(none, 0), rfl, hw, trivial⟩
  | some ad =>
    repeat (first | refine g_then ?_ | refine g_region ?_ | refine g_seq ?_ | refine g_skip ?_ | refine g_condF ?_)
    refine g_build0 rfl fun eb _ => ?_
    repeat (refine g_op rfl ?_)
    refine g_appendF rfl rfl l (fun b => [.bool b]) (fun _ _ _ h => h) (fun _ => rfl) (fun _ u hu => by simp only [List.mem_singleton] at hu; subst hu; rfl) (fun w hw => hl.keep keeps_bool hw.chg) (by omega) (by omega) fun a' c' => ?_
    rw [flat_one, List.nil_append, Nat.zero_add]
    repeat (first | refine g_then ?_ | refine g_nil ?_ | refine g_opS rfl ?_ | refine g_ret ?_)
    exact g_ret1 rfl fun w hw => ⟨(a', c'), rfl, hw, trivial⟩
theorem list_c (a : Option Addr) (R c : Nat) (s : List Bool) (hR : R ≤ 1000) (w0 : World) (hs : SlAt w0 (.slice a R c) 1 s BoolV) :
    Ret Tryd.prog 76 [.slice a R c] w0 fun u w' => ∃ x : Option Addr × Nat × List Nat, u = .slice x.1 x.2.2.length x.2.1 ∧ Wd NoS w0 [Ent.vec x.1 x.2.2.length x.2.1 3 1 (x.2.2.map intN)] w' ∧ x.2.2 = (List.range R).filter fun r => decide (s[r]? = some true) := by
  obtain ⟨a, n, c, b, o, hv, hn, hnc, hnb, hc, ha, hel⟩ := hs
  simp only [Value.slice.injEq] at hv
  obtain ⟨rfl, rfl, rfl⟩ := hv
  refine ret_enter Tryd.func76 rfl Tryd.ntmps76 rfl (Wd.nil NoS w0) ?_
  repeat (first | refine g_op rfl ?_ | refine g_then ?_ | refine g_nil ?_ | refine g_region ?_ | refine g_seq ?_ | refine g_block ?_)
  refine g_nilVec 3 1 ?_
  refine g_loop (fun (x : Nat × Option Addr × Nat × List Nat) => x.1 ≤ R ∧ x.2.2.2 = (List.range x.1).filter fun r => decide (s[r]? = some true)) (fun x => [(8, .int .i64 x.1), (6, .slice a R c), (7, .int .i64 R), (3, .slice x.2.1 x.2.2.2.length x.2.2.1)])
    (fun x => [Ent.vec x.2.1 x.2.2.2.length x.2.2.1 3 1 (x.2.2.2.map intN)]) (fun x => R - x.1) (0, none, 0, []) ⟨Nat.zero_le _, rfl⟩ (g_done (by repeat (first | exact trivial | refine ⟨rfl, ?_⟩)) (List.Sublist.refl _)) fun x ⟨hi, hl⟩ => ?_
  obtain ⟨i, la, lc, l⟩ := x
  simp only at hi hl ⊢
  have hll : l.length ≤ i := by rw [hl]; have := List.length_filter_le (fun r => decide (s[r]? = some true)) (List.range i); rwa [List.length_range] at this
  repeat (first | refine g_op rfl ?_ | refine g_then ?_ | refine g_nil ?_ | refine g_region ?_ | refine g_seq ?_)
  refine g_cond (fun h1 => ?_) (fun h1 => ?_)
  · have hlt : i < R := by simpa using h1
    obtain ⟨x, hx⟩ := get_lt hn hlt
    have had : AddrIs a b o := ⟨ha (ne_of_get hx)⟩
    have hli : LtIs i R := ⟨hlt⟩
    obtain ⟨cs, hcs, rfl⟩ := hel i x hx
    have hci : CellsIs w0 b (o + i * 1) _ := ⟨hcs⟩
    have hnew : (List.range (i + 1)).filter (fun r => decide (s[r]? = some true)) = l ++ if x = true then [i] else [] := by
      rw [List.range_succ, List.filter_append, ← hl]
      congr 1
      cases x <;> simp [hx]
    cases x
    · repeat (first | refine g_op rfl ?_ | refine g_then ?_ | refine g_nil ?_ | refine g_region ?_ | refine g_seq ?_ | refine g_opS rfl ?_ | refine g_inBlock ?_ | refine g_block ?_ | refine g_skip ?_ | refine g_condF ?_ | refine g_add rfl (by omega) (by omega) ?_)
      exact g_next (i + 1, la, lc, l) ⟨hlt, by simpa using hnew.symm⟩ (by simp only; omega) (by repeat (first | exact trivial | refine ⟨rfl, ?_⟩)) (List.Sublist.refl _)
    · repeat (first | refine g_op rfl ?_ | refine g_then ?_ | refine g_nil ?_ | refine g_region ?_ | refine g_seq ?_ | refine g_block ?_ | refine g_skip ?_ | refine g_condT ?_ | refine g_build1 rfl rfl fun _ _ => ?_)
      refine g_append rfl rfl (by omega) (by omega) fun a' c' => ?_
      rw [show l.map intN ++ [.int .i64 (i : Int)] = (l ++ [i]).map intN by simp [intN], show l.length + 1 = (l ++ [i]).length by simp]
      repeat (first | refine g_then ?_ | refine g_nil ?_ | refine g_region ?_ | refine g_opS rfl ?_ | refine g_inBlock ?_ | refine g_add rfl (by omega) (by omega) ?_)
      exact g_next (i + 1, a', c', l ++ [i]) ⟨hlt, by simpa using hnew.symm⟩ (by simp only; omega) (by repeat (first | exact trivial | refine ⟨rfl, ?_⟩)) (List.Sublist.cons _ (List.Sublist.refl _))
  · have hge : i = R := by have := h1; simp at this; omega
    repeat (first | refine g_op rfl ?_ | refine g_then ?_ | refine g_nil ?_ | refine g_region ?_ | refine g_seq ?_ | refine g_exit ?_ | refine g_thenExit ?_ | refine g_exitHere ?_ | refine g_ret ?_)
    exact g_ret1 rfl fun w hw => ⟨(la, lc, l), rfl, hw, by rw [hl, hge]⟩
end Go.Proofs.YtebajiafdkokjaaDoor

/- (Set).Ahead, slices.Backward over instructions. -/
namespace Go.Proofs.YtebajiafdkokjaaDoor
open Go Go.RowKit
attribute [local irreducible] wpListIn Code.wpIn Exit.then Exit.inBlock bodyPost wpQuiet wpAnyIn bodyPostM
set_option maxHeartbeats 4000000

theorem backwardI_c (v : Value) (hv : ∃ a n c, v = .slice a n c) (w0 : World) : Ret Tryd.prog 77 [v] w0 fun u w' => ∃ p : Nat × Nat, u = .func (.func 114) #[] #[.pointer (some ⟨p.1, 0, none⟩)] ∧ Wd NoS w0 [Ent.box p.1 [v] p.2] w' ∧ True := by
  obtain ⟨a, n, c, rfl⟩ := hv
  refine ret_enter Tryd.func77 rfl Tryd.ntmps77 rfl (Wd.nil NoS w0) ?_
  repeat (first | refine g_op rfl ?_ | refine g_then ?_ | refine g_nil ?_ | refine g_region ?_ | refine g_seq ?_ | refine g_opS rfl ?_ | refine g_box rfl fun _ _ => ?_ | refine g_ret ?_)
  exact g_ret1 rfl fun w hw => ⟨(_, _), rfl, hw, trivial⟩
/-- registers that there are -/
abbrev ValA (R : Nat) : Type := { v : LVal // ValOk R v }
theorem valA_ex {R : Nat} : ∀ l : List LVal, (∀ v ∈ l, ValOk R v) → ∃ xs : List (ValA R), xs.map (·.1) = l
  | [], _ => ⟨[], rfl⟩
  | v :: l, h => by
    obtain ⟨xs, hxs⟩ := valA_ex l fun u hu => h u (List.mem_cons_of_mem _ hu)
    exact ⟨⟨v, h v (by simp)⟩ :: xs, by rw [List.map_cons, hxs]⟩
theorem takeA_fold {R : Nat} (xs : List (ValA R)) (s : List Bool) : xs.foldl (fun s y => takeV s y.1) s = (xs.map (·.1)).foldl takeV s := by rw [List.foldl_map]
theorem setAhead_c (a : Option Addr) (R c : Nat) (s : List Bool) (hs : s.length = R) (x : LIns) (hx : InsOk R x) (hlen : x.args.length ≤ 100000) (va : Option Addr) (vn vc : Nat) (wz : World) (hsl : SlAt wz (.slice va vn vc) 2 x.args ValV) (w : World) (hw : Wd NoS wz [vecB a R c s] w) :
    Ret Tryd.prog 78 [.slice a R c, .agg #[.int .i64 x.op, .int .i64 x.dst, .bool x.a.reg, .int .i64 x.a.n, .bool x.b.reg, .int .i64 x.b.n, .int .i64 x.fn, .slice va vn vc]] w fun u w' => ∃ _ : Unit, u = .tuple #[] ∧ Wd (fps [vecB a R c s]) w [vecB a R c (insV s x)] w' ∧ True := by
  have hz := hw.chg
  refine ret_enterM (w0 := wz) (S := NoS) Tryd.func78 rfl Tryd.ntmps78 rfl hw.withRest ?_
  generalize hrest : Ent.rest (restOf wz.heap.size w [vecB a R c s]) w = RS
  repeat (first | refine g_op rfl ?_ | refine g_then ?_ | refine g_nil ?_ | refine g_region ?_ | refine g_seq ?_ | refine g_box rfl fun _ _ => ?_)
  rename_i b2 _ b3 _
  generalize hs1 : (if 0 ≤ x.dst then s.set x.dst.toNat false else s) = s1
  have hs1l : s1.length = R := by subst hs1; split <;> simpa using hs
  refine g_mid [(2, .pointer (some ⟨b2, 0, none⟩)), (3, .pointer (some ⟨b3, 0, none⟩))] [Ent.box b3 [.int .i64 x.op, .int .i64 x.dst, .bool x.a.reg, .int .i64 x.a.n, .bool x.b.reg, .int .i64 x.b.n, .int .i64 x.fn, .slice va vn vc] 114, Ent.box b2 [.slice a R c] 107, RS, vecB a R c s1] ?_ ?_
  · refine g_cond (fun h1 => ?_) (fun h1 => ?_)
    · have h0 : 0 ≤ x.dst := by simpa using h1
      have hR := hx.dst h0
      obtain ⟨k, hk⟩ : ∃ k : Nat, x.dst = k := ⟨x.dst.toNat, by omega⟩
      obtain ⟨y, hy⟩ : ∃ y, s[k]? = some y := ⟨_, List.getElem?_eq_getElem (by omega)⟩
      unfold vecB
      refine g_vec 3 rfl (by omega) fun vb vo hva => ?_
      have hli : LtIs k R := ⟨by omega⟩
      have hea : ElAt s k y := ⟨hy⟩
      have hni : NatIs x.dst k := ⟨hk⟩
      rw [hva]
      repeat (first | refine g_op rfl ?_ | refine g_then ?_ | refine g_nil ?_ | refine g_region ?_ | refine g_storeV ?_)
      rw [if_pos h0, show x.dst.toNat = k by omega] at hs1
      rw [hs1]
      exact g_done (by repeat (first | exact trivial | refine ⟨rfl, ?_⟩)) (List.Sublist.refl _)
    · have h0 : ¬ 0 ≤ x.dst := by simpa using h1
      repeat (first | refine g_then ?_ | refine g_skip ?_)
      rw [if_neg h0] at hs1
      rw [hs1]
      exact g_done (by repeat (first | exact trivial | refine ⟨rfl, ?_⟩)) (List.Sublist.refl _)
  repeat (first | refine g_op rfl ?_ | refine g_region ?_ | refine g_seq ?_)
  refine g_callE (val := fun p : Nat => .func (.func 136) #[] #[.pointer (some ⟨p, 0, none⟩)]) (E := fun p => [Ent.box p [.int .i64 x.op, .int .i64 x.dst, .bool x.a.reg, .int .i64 x.a.n, .bool x.b.reg, .int .i64 x.b.n, .int .i64 x.fn, .slice va vn vc] 114]) (φ := fun _ => True) rfl (fun w hw => vals_c x _ ⟨_, _, _, rfl⟩ w) fun bp _ => ?_
  simp only [List.cons_append, List.nil_append]
  repeat (first | refine g_then ?_ | refine g_nil ?_ | refine g_block ?_)
  obtain ⟨xs, hxs⟩ := valA_ex (R := R) (valsOf x) hx.vals
  have hfin : xs.foldl (fun s y => takeV s y.1) s1 = insV s x := by rw [takeA_fold, hxs, ← hs1]; rfl
  refine g_fix (L' := [(13, .func (.func 136) #[] #[.pointer (some ⟨bp, 0, none⟩)]), (2, .pointer (some ⟨b2, 0, none⟩)), (3, .pointer (some ⟨b3, 0, none⟩))]) (by repeat (first | exact trivial | refine ⟨rfl, ?_⟩)) (List.Sublist.refl _) ?_
  refine g_sel [4, 0, 1, 2, 3] (by decide) ?_
  refine g_rangeB (α := ValA R) (gf := 136) (lb := [.pointer (some ⟨bp, 0, none⟩)]) [Ent.box bp [.int .i64 x.op, .int .i64 x.dst, .bool x.a.reg, .int .i64 x.a.n, .bool x.b.reg, .int .i64 x.b.n, .int .i64 x.fn, .slice va vn vc] 114, Ent.box b3 [.int .i64 x.op, .int .i64 x.dst, .bool x.a.reg, .int .i64 x.a.n, .bool x.b.reg, .int .i64 x.b.n, .int .i64 x.fn, .slice va vn vc] 114, Ent.box b2 [.slice a R c] 107, RS] (fun s : List Bool => [vecB a R c s]) s1 (fun s => ⟨by intro e he; simp only [List.mem_singleton] at he; subst he; unfold vecB; infer_instance⟩) (fun s s' b ⟨e, he, hb⟩ => ⟨vecB a R c s', by simp, by simp only [List.mem_singleton] at he; subst he; exact hb⟩) xs
    (encs := fun y => #[.agg #[.bool y.1.reg, .int .i64 y.1.n]]) (Bs := bp) (bcs := [.int .i64 x.op, .int .i64 x.dst, .bool x.a.reg, .int .i64 x.a.n, .bool x.b.reg, .int .i64 x.b.n, .int .i64 x.fn, .slice va vn vc]) (bt := 114) (by simp)
    (fun w1 hw1 => ?_) (fun pre s => s = pre.foldl (fun s y => takeV s y.1) s1) rfl (List.Sublist.refl _) (fun _ => rfl) (fun y => [.bool y.1.reg, .int .i64 y.1.n]) 61
    (fun y => [(14, .agg #[.bool y.1.reg, .int .i64 y.1.n]), (2, .pointer (some ⟨b2, 0, none⟩)), (3, .pointer (some ⟨b3, 0, none⟩))]) (fun y q => [(4, .pointer (some ⟨q, 0, none⟩)), (2, .pointer (some ⟨b2, 0, none⟩)), (3, .pointer (some ⟨b3, 0, none⟩))]) (fun y a h => ?_) (fun l y s R => ?_) (fun l pre y s q RR hI hlt => ?_) fun D s2 hD hI => ?_
  · intro l J Jx W hW hJ hJx hY h0
    have hownz : ∀ b, fps ([vecB a R c s1] ++ [Ent.box bp [.int .i64 x.op, .int .i64 x.dst, .bool x.a.reg, .int .i64 x.a.n, .bool x.b.reg, .int .i64 x.b.n, .int .i64 x.fn, .slice va vn vc] 114, Ent.box b3 [.int .i64 x.op, .int .i64 x.dst, .bool x.a.reg, .int .i64 x.a.n, .bool x.b.reg, .int .i64 x.b.n, .int .i64 x.fn, .slice va vn vc] 114, Ent.box b2 [.slice a R c] 107, RS]) b → wz.heap.size ≤ b ∧ b < w1.heap.size := fun b ⟨e, he, hb⟩ => by
      have := hw1.own e he b hb
      exact ⟨this.1.elim (fun h => h.elim) id, this.2⟩
    have h2 := vals1_c (α := ValA R) (fun y => y.1) x va vn vc xs hxs hlen l bp _ wz hsl (fun b hb h => by have := (hownz b h.1).1; omega) (fun h => h.2 rfl) W (fun b hb h => by have := (hownz b h.1).2; have := hW.size; omega) J Jx _ hJ hJx hY (fun p v hp => by
      have h3 := cell_keep hw1.chg hp
      exact (hW.cell (World.block_lt_of_cell? w1 _ h3)).trans h3) (fun j v hj => by
      have h3 : w1.cell? ⟨bp, 0 + j, none⟩ = some v := hw1.boxCells bp j v hj
      exact (hW.cell (World.block_lt_of_cell? w1 _ h3)).trans h3) h0
    exact callsIn_deep (CallsIn.mono h2 fun e w' ⟨v, he, hh⟩ => ⟨⟨v, he⟩, hh⟩)
  · have h2 := (h.to (L' := [(2, .pointer (some ⟨b2, 0, none⟩)), (3, .pointer (some ⟨b3, 0, none⟩))]) (by repeat (first | exact trivial | refine ⟨rfl, ?_⟩))).putOk (d := 14) rfl (.agg #[.bool y.1.reg, .int .i64 y.1.n])
    have e : (#[14].zip #[Value.agg #[.bool y.1.reg, .int .i64 y.1.n]]).foldl (fun (t : Array Value) (q : Tmp × Value) => t.setIfInBounds q.1 q.2) a.tmps = a.tmps.setIfInBounds 14 (.agg #[.bool y.1.reg, .int .i64 y.1.n]) := by simp
    refine ⟨Eq.trans (congrArg Array.size e) h2.size, rfl, fun p hp => ?_⟩
    exact Eq.trans (congrArg (fun t : Array Value => t[p.1]?) e) (h2.slot p hp)
  · repeat (first | refine g_then ?_ | refine g_nil ?_ | refine g_region ?_ | refine g_alloc rfl fun _ _ => ?_ | refine g_storeAgg ?_)
    exact g_doneP _ (by repeat (first | exact trivial | refine ⟨rfl, ?_⟩)) (List.Sublist.refl _)
  · have hsl2 : s.length = R := by
      rw [hI, takeA_fold, takes_length, hs1l]
    simp only [List.cons_append, List.nil_append]
    repeat (first | refine g_op rfl ?_ | refine g_region ?_ | refine g_block ?_)
    refine g_sel [2, 0, 1, 3, 4, 5, 6] (by decide) ?_
    refine g_eqH (H1 := [vecB a R c s] ++ [RR, Ent.box q [.bool y.1.reg, .int .i64 y.1.n] 61, Ent.box bp [.int .i64 x.op, .int .i64 x.dst, .bool x.a.reg, .int .i64 x.a.n, .bool x.b.reg, .int .i64 x.b.n, .int .i64 x.fn, .slice va vn vc] 114, Ent.box b3 [.int .i64 x.op, .int .i64 x.dst, .bool x.a.reg, .int .i64 x.a.n, .bool x.b.reg, .int .i64 x.b.n, .int .i64 x.fn, .slice va vn vc] 114, Ent.box b2 [.slice a R c] 107, RS]) rfl ?_
    refine g_callS (val := fun _ : Unit => .tuple #[]) (E := fun _ => [vecB a R c (takeV s y.1)]) (φ := fun _ => True) rfl (fun w hw => take_c a R c s hsl2 y.1 y.2 w hw.pre) fun _ _ => ?_
    simp only [List.cons_append, List.nil_append]
    repeat (first | refine g_then ?_ | refine g_nil ?_ | refine g_inBlock ?_)
    refine g_sel [1, 0, 2, 3, 4, 5, 6] (by decide) ?_
    refine g_rnd (takeV s y.1) ?_ (List.Sublist.refl _)
    rw [List.foldl_append, ← hI]; rfl
  · simp only [List.cons_append, List.nil_append]
    repeat (refine g_inBlock ?_)
    refine g_sel [0, 5, 1] (by decide) ?_
    refine g_endM0 rfl hD fun w' hw' => ⟨(), rfl, ?_, trivial⟩
    rw [← hfin, ← hI]
    rw [← hrest] at hw'
    exact wd_rest hz hw'
end Go.Proofs.YtebajiafdkokjaaDoor

/- graph.Ahead, live.BehindOf: what each returns. -/
namespace Go.Proofs.YtebajiafdkokjaaDoor
open Go Go.RowKit
attribute [local irreducible] wpListIn Code.wpIn Exit.then Exit.inBlock bodyPost wpQuiet wpAnyIn
set_option maxHeartbeats 4000000

theorem graphAhead_c (nm pa re : Value) (bl : List LBlock) (bs : Value) (w0 : World) (hbs : SlAt w0 bs 6 bl BlockV) (hlen : bl.length ≤ 100) (hok : GoodB bl) :
    Ret Tryd.prog 93 [.agg #[nm, pa, re, bs]] w0 fun u w' => ∃ x : (Option Addr × Nat × Nat) × (Nat → Prop), u = .slice x.1.1 x.1.2.1 x.1.2.2 ∧ Wd NoS w0 [⟨x.2, fun w => SlAt w (.slice x.1.1 x.1.2.1 x.1.2.2) 1 (aheadL bl) RowV⟩] w' ∧ True := by
  obtain ⟨ba, n, bc, bb, bo', rfl, hn, hnc, hnb, hbc, hba, hel⟩ := hbs
  refine ret_enter Tryd.func93 rfl Tryd.ntmps93 rfl (Wd.nil NoS w0) ?_
  repeat (first | refine g_op rfl ?_ | refine g_then ?_ | refine g_nil ?_ | refine g_region ?_ | refine g_seq ?_ | refine g_box rfl fun _ _ => ?_ | refine g_block ?_ | refine g_make rfl (by omega) (by omega) fun _ _ => ?_)
  rename_i b1 _ bo _
  refine g_nilVecs 3 1 n ?_
  rw [show (List.replicate n (Value.slice none 0 0)) = (List.replicate n (⟨none, 0, []⟩ : Row)).map valR by simp [valR], show (List.replicate n (Ent.vec none 0 0 3 1 [])) = (List.replicate n (⟨none, 0, []⟩ : Row)).map entR by simp [entR]]
  refine g_loop (fun (x : Nat × List Row) => x.1 ≤ n ∧ x.2.map (·.l) = aheadTo bl x.1 ∧ x.2.length = n ∧ ∀ r ∈ x.2, r.l.length ≤ 2 * x.1 ∧ ∀ y ∈ r.l, inI y) (fun x => [(15, .int .i64 x.1), (13, .slice ba n bc), (14, .int .i64 n), (3, .slice (some ⟨bo, 0, none⟩) n n)]) (fun x => Ent.vec (some ⟨bo, 0, none⟩) n n 27 1 (x.2.map valR) :: x.2.map entR) (fun x => n - x.1) (0, List.replicate n ⟨none, 0, []⟩)
    ⟨Nat.zero_le _, by simp [aheadTo, hn], by simp, by simp⟩ (g_done (by repeat (first | exact trivial | refine ⟨rfl, ?_⟩)) (List.Sublist.cons_cons _ (List.Sublist.cons _ (List.Sublist.refl _)))) fun x ⟨hi, hrows, hrl, hbd⟩ => ?_
  obtain ⟨i, rs⟩ := x
  simp only at hi hrows hrl hbd ⊢
  repeat (first | refine g_op rfl ?_ | refine g_then ?_ | refine g_nil ?_ | refine g_region ?_ | refine g_seq ?_)
  refine g_cond (fun h1 => ?_) (fun h1 => ?_)
  · have hlt : i < n := by simpa using h1
    obtain ⟨B, hB⟩ := get_lt hn hlt
    have had : AddrIs ba bb bo' := ⟨hba (ne_of_get hB)⟩
    have hli : LtIs i n := ⟨hlt⟩
    obtain ⟨cs, hcs, pv, lv, tv, rfl, _, _, hphis, hlist, ht⟩ := hel i B hB
    obtain ⟨pa', pn, pc, _, _, rfl, _⟩ := hphis
    obtain ⟨la, ln, lc, _, _, rfl, _⟩ := hlist
    obtain ⟨ta, tn, tc, tb, to', rfl, htn, htnc, htnb, htc, hta, htel⟩ := ht
    have hci : CellsIs w0 bb (bo' + i * 6) _ := ⟨hcs⟩
    have htok : toOk bl.length B.to := hok B (List.mem_of_getElem? hB)
    repeat (first | refine g_op rfl ?_ | refine g_then ?_ | refine g_nil ?_ | refine g_region ?_ | refine g_seq ?_ | refine g_alloc rfl fun _ _ => ?_ | refine g_storeAgg ?_ | refine g_block ?_ | refine g_skip ?_)
    refine g_loop (fun (x : Nat × List Row) => x.1 ≤ tn ∧ x.2.map (·.l) = (B.to.take x.1).foldl (aheadIn i) (aheadTo bl i) ∧ x.2.length = n ∧ ∀ r ∈ x.2, r.l.length ≤ 2 * i + x.1 ∧ ∀ y ∈ r.l, inI y) (fun x => [(24, .int .i64 x.1), (22, .slice ta tn tc), (23, .int .i64 tn), (4, .int .i64 i), (15, .int .i64 i), (13, .slice ba n bc), (14, .int .i64 n), (3, .slice (some ⟨bo, 0, none⟩) n n)])
      (fun x => Ent.vec (some ⟨bo, 0, none⟩) n n 27 1 (x.2.map valR) :: x.2.map entR) (fun x => tn - x.1) (0, rs)
      ⟨Nat.zero_le _, by simpa using hrows, hrl, fun r hr => by simpa using hbd r hr⟩ (g_done (by repeat (first | exact trivial | refine ⟨rfl, ?_⟩)) (List.Sublist.cons _ (List.Sublist.refl _))) fun x ⟨hj, hrows', hrl', hbd'⟩ => ?_
    obtain ⟨j, rs'⟩ := x
    simp only at hj hrows' hrl' hbd' ⊢
    repeat (first | refine g_op rfl ?_ | refine g_then ?_ | refine g_nil ?_ | refine g_region ?_ | refine g_seq ?_)
    refine g_cond (fun h2 => ?_) (fun h2 => ?_)
    · have hjlt : j < tn := by simpa using h2
      obtain ⟨t, htj⟩ := get_lt htn hjlt
      have htt := htok.2 t (List.mem_of_getElem? htj)
      obtain ⟨k, hk⟩ : ∃ k : Nat, t = k := ⟨t.toNat, by omega⟩
      have hkn : k < n := by omega
      have hkl : k < rs'.length := by omega
      obtain ⟨r, hr⟩ : ∃ r, rs'[k]? = some r := ⟨_, List.getElem?_eq_getElem hkl⟩
      have had2 : AddrIs ta tb to' := ⟨hta (ne_of_get htj)⟩
      have hli2 : LtIs j tn := ⟨hjlt⟩
      have hli3 : LtIs k n := ⟨hkn⟩
      have hni : NatIs t k := ⟨hk⟩
      obtain ⟨cs2, hcs2, rfl, _⟩ := htel j t htj
      have hci2 : CellsIs w0 tb (to' + j * 1) _ := ⟨hcs2⟩
      have hxa : XAt (rs'.map valR) (k * 1) (.slice r.a r.l.length r.c) := ⟨by simp [hr, valR]⟩
      have hrb := hbd' r (List.mem_of_getElem? hr)
      repeat (first | refine g_op rfl ?_ | refine g_then ?_ | refine g_nil ?_ | refine g_region ?_ | refine g_seq ?_ | refine g_block ?_ | refine g_skip ?_ | refine g_build1 rfl rfl fun _ _ => ?_)
      rename_i bt _
      have htok1 := htok.1
      refine g_appendAt (k + 2) (xs := r.l.map (.int .i64)) (e := 3) (by simp [hr, entR]) rfl rfl (by omega) (by omega) fun a' c' => ?_
      refine g_eqH (H1 := Ent.vec (some ⟨bt, 0, none⟩) 1 1 3 1 [.int .i64 i] :: Ent.vec (some ⟨bo, 0, none⟩) n n 27 1 (rs'.map valR) :: (rs'.set k ⟨a', c', r.l ++ [(i : Int)]⟩).map entR) (by simp [entR, List.map_set]) ?_
      have hxs : XSet (rs'.map valR) (k * 1) (.slice a' (r.l.length + 1) c') ((rs'.set k ⟨a', c', r.l ++ [(i : Int)]⟩).map valR) := ⟨by simp [valR, List.map_set], by simpa using hkl⟩
      repeat (first | refine g_op rfl ?_ | refine g_then ?_ | refine g_nil ?_ | refine g_region ?_ | refine g_opS rfl ?_ | refine g_inBlock ?_ | refine g_add rfl (by omega) (by omega) ?_ | refine g_storeV ?_)
      refine g_next (j + 1, rs'.set k ⟨a', c', r.l ++ [(i : Int)]⟩) ⟨hjlt, ?_, by simpa using hrl', ?_⟩ (by simp only; omega) (by repeat (first | exact trivial | refine ⟨rfl, ?_⟩)) (List.Sublist.cons _ (List.Sublist.refl _))
      · simp only
        rw [List.take_add_one, htj]
        simp only [Option.toList_some, List.foldl_append, List.foldl_cons, List.foldl_nil]
        rw [← hrows', aheadIn, show t.toNat = k by omega]
        exact map_set_modify hr rfl
      · intro q hq
        rcases List.mem_or_eq_of_mem_set hq with hq | rfl
        · have := hbd' q hq
          exact ⟨by simp only; omega, this.2⟩
        · refine ⟨by simp only [List.length_append, List.length_singleton]; omega, fun y hy => ?_⟩
          rcases List.mem_append.1 hy with hy | hy
          · exact hrb.2 y hy
          · simp only [List.mem_singleton] at hy
            subst hy
            simp only [inI]; omega
    · have hge : j = tn := by have := h2; simp at this; omega
      repeat (first | refine g_then ?_ | refine g_nil ?_ | refine g_region ?_ | refine g_opS rfl ?_ | refine g_inBlock ?_ | refine g_add rfl (by omega) (by omega) ?_ | refine g_exit ?_ | refine g_thenExit ?_ | refine g_exitHere ?_)
      refine g_next (i + 1, rs') ⟨hlt, ?_, hrl', fun r hr => ?_⟩ (by simp only; omega) (by repeat (first | exact trivial | refine ⟨rfl, ?_⟩)) (List.Sublist.refl _)
      · simp only [aheadTo, hB]
        rw [hrows', hge, htn, List.take_length]
      · have := hbd' r hr
        have htok1 := htok.1
        exact ⟨by simp only; omega, this.2⟩
  · have hge : i = n := by have := h1; simp at this; omega
    repeat (first | refine g_op rfl ?_ | refine g_then ?_ | refine g_nil ?_ | refine g_region ?_ | refine g_seq ?_ | refine g_exit ?_ | refine g_thenExit ?_ | refine g_exitHere ?_ | refine g_ret ?_)
    refine g_ret1 rfl fun w hw => ⟨((some ⟨bo, 0, none⟩, n, n), fps (Ent.vec (some ⟨bo, 0, none⟩) n n 27 1 (rs.map valR) :: rs.map entR)), rfl, ?_, trivial⟩
    have hw' : Wd NoS w0 ((Ent.vec (some ⟨bo, 0, none⟩) n n 27 1 (rs.map valR) :: rs.map entR) ++ []) w := by rw [List.append_nil]; exact hw
    refine hw'.pack _ fun w2 hw2 => ?_
    have := rows_sl (H := []) (by rw [List.append_nil]; exact hw2) hrl.symm (by omega) fun r hr => ⟨by have := (hbd r hr).1; omega, (hbd r hr).2⟩
    rw [hrows, hge, hn] at this
    exact hn ▸ this

/-- sets, as one reads them -/
def SetV (w : World) (l : List Bool) (cs : List Value) : Prop := ∃ v, cs = [v] ∧ SlAt w v 1 l BoolV
theorem keeps_set : Keeps SetV := fun _ _ hc _ _ ⟨v, h1, h2⟩ => ⟨v, h1, h2.keep keeps_bool hc⟩
/-- what the sets tell -/
def inOf (rows : List (List Bool)) (t r : Nat) : Prop := ∃ s, rows[t]? = some s ∧ has s r
theorem preds_mem {bl : List LBlock} {t b : Nat} (hb : b < bl.length) (h : (t : Int) ∈ toOf bl b) : b ∈ preds bl t := by
  unfold preds
  rw [List.mem_filter]
  exact ⟨by simpa using hb, by simpa using h⟩
theorem phisOf_get {bl : List LBlock} {t : Nat} {B : LBlock} (h : bl[t]? = some B) : phisOf bl t = B.phis := by simp [phisOf, h]
theorem behindOf_c (nm pa : Value) (R : Nat) (hR : R ≤ 100) (bl : List LBlock) (bs : Value) (b : Nat) (rows : List (List Bool)) (aa ia : Option Addr) (an ac ic : Nat) (w0 : World) (hbs : SlAt w0 bs 6 bl BlockV) (n' : Nat) (hn' : n' = bl.length) (hf : FuncOk R bl) (hb : b < bl.length) (hrl : rows.length = bl.length) (hrR : ∀ s ∈ rows, s.length = R)
    (hah : SlAt w0 (.slice aa an ac) 1 (aheadL bl) RowV) (hin : SlAt w0 (.slice ia n' ic) 1 rows SetV) :
    Ret Tryd.prog 104 [.agg #[nm, pa, .int .i64 R, bs], .slice aa an ac, .slice ia n' ic, .int .i64 b] w0 fun u w' => ∃ x : Nat × List Bool, u = .slice (some ⟨x.1, 0, none⟩) R R ∧ Wd NoS w0 [vecB (some ⟨x.1, 0, none⟩) R R x.2] w' ∧ (x.2.length = R ∧ ∀ r, has x.2 r ↔ Beh bl (inOf rows) b r) := by
  subst hn'
  have hok := hf.good
  have hto : ∀ (b : Nat) (B : LBlock), bl[b]? = some B → B.to.Nodup := fun b B hB => (hf.block b B hB).to
  obtain ⟨ba, n, bc, bb, bo', rfl, hn, hnc, hnb, hbc, hba, hel⟩ := hbs
  obtain ⟨ia', in', ic', ib, io, hv, hin1, _, _, _, hia, hiel⟩ := hin
  simp only [Value.slice.injEq] at hv
  obtain ⟨rfl, rfl, rfl⟩ := hv
  obtain ⟨aa', an', ac', ab, ao, hv, han, _, _, _, haa, hael⟩ := hah
  simp only [Value.slice.injEq] at hv
  obtain ⟨rfl, rfl, rfl⟩ := hv
  rw [← hn] at hb hrl ⊢
  refine ret_enter Tryd.func104 rfl Tryd.ntmps104 rfl (Wd.nil NoS w0) ?_
  obtain ⟨B, hB⟩ := get_lt hn hb
  have had : AddrIs ba bb bo' := ⟨hba (ne_of_get hB)⟩
  have hli : LtIs b n := ⟨hb⟩
  obtain ⟨cs, hcs, pv', lv, tv, rfl, _, _, hphis, hlist, ht⟩ := hel b B hB
  obtain ⟨pa', pn, pc, _, _, rfl, _⟩ := hphis
  obtain ⟨la, ln, lc, _, _, rfl, _⟩ := hlist
  obtain ⟨ta, tn, tc, tb, to', rfl, htn, htnc, htnb, htc, hta, htel⟩ := ht
  have hci : CellsIs w0 bb (bo' + b * 6) _ := ⟨hcs⟩
  have hBok := hok B (List.mem_of_getElem? hB)
  repeat (first | refine g_op rfl ?_ | refine g_then ?_ | refine g_nil ?_ | refine g_region ?_ | refine g_seq ?_ | refine g_box rfl fun _ _ => ?_ | refine g_alloc rfl fun _ _ => ?_ | refine g_storeAgg ?_ | refine g_block ?_ | refine g_make rfl (by omega) (by omega) fun _ _ => ?_)
  rename_i p4 _ ob _ p10 _
  rw [show List.replicate R (Value.bool false) = (List.replicate R false).map Value.bool by simp]
  refine g_loop (fun (x : Nat × List Bool) => x.1 ≤ tn ∧ x.2.length = R ∧ ∀ r, has x.2 r ↔ ∃ t : Nat, (∃ q, q < x.1 ∧ B.to[q]? = some (t : Int)) ∧ (takesR bl t b r = true ∨ inOf rows t r)) (fun x => [(31, .int .i64 x.1), (29, .slice ta tn tc), (30, .int .i64 tn), (9, .slice (some ⟨ob, 0, none⟩) R R), (4, .pointer (some ⟨p4, 0, none⟩)), (1, .slice aa an ac), (2, .slice ia n ic), (3, .int .i64 b)]) (fun x => [vecB (some ⟨ob, 0, none⟩) R R x.2, Ent.box p4 [nm, pa, .int .i64 R, .slice ba n bc] 35]) (fun x => tn - x.1) (0, List.replicate R false)
    ⟨Nat.zero_le _, by simp, fun r => by simp [has, List.getElem?_replicate]⟩ (g_done (by repeat (first | exact trivial | refine ⟨rfl, ?_⟩)) (List.Sublist.cons _ (List.Sublist.refl _))) fun x ⟨hi, hsl, hs⟩ => ?_
  obtain ⟨i, s⟩ := x
  simp only at hi hsl hs ⊢
  repeat (first | refine g_op rfl ?_ | refine g_then ?_ | refine g_nil ?_ | refine g_region ?_ | refine g_seq ?_)
  refine g_cond (fun h1 => ?_) (fun h1 => ?_)
  · have hilt : i < tn := by simpa using h1
    obtain ⟨t, htj⟩ := get_lt htn hilt
    have htt := hBok.2 t (List.mem_of_getElem? htj)
    obtain ⟨k, hk⟩ : ∃ k : Nat, t = k := ⟨t.toNat, by omega⟩
    subst hk
    have hkn : k < n := by omega
    have had2 : AddrIs ta tb to' := ⟨hta (ne_of_get htj)⟩
    have hli2 : LtIs i tn := ⟨hilt⟩
    obtain ⟨cs2, hcs2, rfl, _⟩ := htel i _ htj
    have hci2 : CellsIs w0 tb (to' + i * 1) _ := ⟨hcs2⟩
    obtain ⟨T, hT⟩ := get_lt hn hkn
    have hlk : LtIs k n := ⟨hkn⟩
    obtain ⟨csT, hcsT, pvT, lvT, tvT, rfl, _, _, hphisT, hlistT, htoT⟩ := hel k T hT
    obtain ⟨xa, xn, xc, xb, xo, rfl, hxn, hxnc, hxnb, hxc, hxa, hxel⟩ := hphisT
    obtain ⟨l2a, l2n, l2c, _, _, rfl, _⟩ := hlistT
    obtain ⟨t2a, t2n, t2c, _, _, rfl, _⟩ := htoT
    have hciT : CellsIs w0 bb (bo' + k * 6) _ := ⟨hcsT⟩
    obtain ⟨row, hrow⟩ := get_lt hrl.symm hkn
    have hadi : AddrIs ia ib io := ⟨hia (ne_of_get hrow)⟩
    obtain ⟨csr, hcsr, rv, rfl, hrv⟩ := hiel k row hrow
    have hciR : CellsIs w0 ib (io + k * 1) _ := ⟨hcsr⟩
    have hrowR := hrR row (List.mem_of_getElem? hrow)
    obtain ⟨ra, rn, rc, rb, ro, rfl, hrn, hrnc, hrnb, hrc, hra, hrel⟩ := hrv
    have hrnR : R = rn := by omega
    subst hrnR
    repeat (first | refine g_op rfl ?_ | refine g_then ?_ | refine g_nil ?_ | refine g_region ?_ | refine g_seq ?_ | refine g_alloc rfl fun _ _ => ?_ | refine g_storeAgg ?_ | refine g_block ?_ | refine g_skip ?_)
    rename_i p13 _
    refine g_loop (fun (x : Nat × List Bool) => x.1 ≤ R ∧ x.2.length = R ∧ ∀ r, has x.2 r ↔ (has s r ∨ (r < x.1 ∧ has row r))) (fun x => [(45, .int .i64 x.1), (43, .slice ra R rc), (44, .int .i64 R), (12, .int .i64 k), (13, .pointer (some ⟨p13, 0, none⟩)), (31, .int .i64 i), (29, .slice ta tn tc), (30, .int .i64 tn), (9, .slice (some ⟨ob, 0, none⟩) R R), (4, .pointer (some ⟨p4, 0, none⟩)), (1, .slice aa an ac), (2, .slice ia n ic), (3, .int .i64 b)]) (fun x => [vecB (some ⟨ob, 0, none⟩) R R x.2, Ent.box p13 [.slice xa xn xc, .slice l2a l2n l2c, .int .i64 T.kind, .bool T.on.reg, .int .i64 T.on.n, .slice t2a t2n t2c] 65, Ent.box p4 [nm, pa, .int .i64 R, .slice ba n bc] 35]) (fun x => R - x.1) (0, s)
      ⟨Nat.zero_le _, hsl, fun r => by simp⟩ ?_ fun x ⟨hj, hsl', hs'⟩ => ?_
    · refine g_sel [1, 0, 2] (by decide) ?_
      exact g_done (by repeat (first | exact trivial | refine ⟨rfl, ?_⟩)) (List.Sublist.refl _)
    obtain ⟨j, s'⟩ := x
    simp only at hj hsl' hs' ⊢
    repeat (first | refine g_op rfl ?_ | refine g_then ?_ | refine g_nil ?_ | refine g_region ?_ | refine g_seq ?_)
    refine g_cond (fun h2 => ?_) (fun h2 => ?_)
    · have hjlt : j < R := by simpa using h2
      obtain ⟨y, hy⟩ := get_lt hrn hjlt
      have hadr : AddrIs ra rb ro := ⟨hra (ne_of_get hy)⟩
      have hlj : LtIs j R := ⟨hjlt⟩
      obtain ⟨cs3, hcs3, rfl⟩ := hrel j y hy
      have hci3 : CellsIs w0 rb (ro + j * 1) _ := ⟨hcs3⟩
      obtain ⟨z, hz⟩ : ∃ z, s'[j]? = some z := ⟨_, List.getElem?_eq_getElem (by omega)⟩
      have hez : ElAt s' j z := ⟨hz⟩
      have hnew : ∀ r, has (s'.set j (z || y)) r ↔ (has s r ∨ (r < j + 1 ∧ has row r)) := fun r => by
        unfold has
        rw [List.getElem?_set]
        by_cases e : j = r
        · subst e
          have h3 := hs' j
          unfold has at h3
          rw [hz] at h3
          rw [if_pos rfl, if_pos (by omega), hy]
          cases z <;> cases y <;> simp at h3 ⊢ <;> first | exact h3 | (simp [h3])
        · rw [if_neg e]
          have h3 := hs' r
          unfold has at h3
          rw [h3]
          constructor
          · rintro (h | ⟨h, h4⟩)
            · exact .inl h
            · exact .inr ⟨by omega, h4⟩
          · rintro (h | ⟨h, h4⟩)
            · exact .inl h
            · exact .inr ⟨by omega, h4⟩
      unfold vecB
      cases z
      · repeat (first | refine g_op rfl ?_ | refine g_then ?_ | refine g_nil ?_ | refine g_region ?_ | refine g_seq ?_ | refine g_opS rfl ?_ | refine g_open ?_ | refine g_inBlock ?_ | refine g_block ?_ | refine g_skip ?_ | refine g_add rfl (by omega) (by omega) ?_ | refine g_storeV ?_)
        exact g_next (j + 1, s'.set j y) ⟨hjlt, by simpa using hsl', by simpa using hnew⟩ (by simp only; omega) (by repeat (first | exact trivial | refine ⟨rfl, ?_⟩)) (List.Sublist.refl _)
      · repeat (first | refine g_op rfl ?_ | refine g_then ?_ | refine g_nil ?_ | refine g_region ?_ | refine g_seq ?_ | refine g_opS rfl ?_ | refine g_pass rfl ?_ | refine g_inBlock ?_ | refine g_block ?_ | refine g_skip ?_ | refine g_add rfl (by omega) (by omega) ?_ | refine g_storeV ?_)
        exact g_next (j + 1, s'.set j true) ⟨hjlt, by simpa using hsl', by simpa using hnew⟩ (by simp only; omega) (by repeat (first | exact trivial | refine ⟨rfl, ?_⟩)) (List.Sublist.refl _)
    · have hge : j = R := by have := h2; simp at this; omega
      have hpm := preds_mem (by omega : b < bl.length) (show (k : Int) ∈ toOf bl b by rw [toOf_get hB]; exact List.mem_of_getElem? htj)
      have hag := aheadL_get hok hto (show k < bl.length by omega)
      have hada : AddrIs aa ab ao := ⟨haa (ne_of_get hag)⟩
      have hlka : LtIs k an := ⟨by rw [han]; exact (List.getElem?_eq_some_iff.1 hag).1⟩
      obtain ⟨csa, hcsa, av, rfl, hav⟩ := hael k _ hag
      have hciA : CellsIs w0 ab (ao + k * 1) _ := ⟨hcsa⟩
      have hav0 := hav
      obtain ⟨a2, a2n, a2c, _, _, rfl, _⟩ := hav
      have hTo := hf.block k T hT
      repeat (first | refine g_op rfl ?_ | refine g_then ?_ | refine g_region ?_ | refine g_seq ?_ | refine g_exit ?_ | refine g_thenExit ?_ | refine g_exitHere ?_)
      refine g_callV rfl (fun w hw => index_c _ (preds bl k) b w hpm (hav0.keep keeps_int hw.chg)) ?_
      have hidx : (preds bl k).idxOf b < (preds bl k).length := List.idxOf_lt_length_of_mem hpm
      generalize hix : (preds bl k).idxOf b = ix at hidx
      repeat (first | refine g_op rfl ?_ | refine g_then ?_ | refine g_nil ?_ | refine g_region ?_ | refine g_seq ?_ | refine g_block ?_)
      refine g_loop (fun (x : Nat × List Bool) => x.1 ≤ xn ∧ x.2.length = R ∧ ∀ r, has x.2 r ↔ (has s' r ∨ ∃ q p, q < x.1 ∧ T.phis[q]? = some p ∧ namesR [p.src[ix]?.getD noV] r = true)) (fun x => [(70, .int .i64 x.1), (68, .slice xa xn xc), (69, .int .i64 xn), (16, .int .i64 (ix : Nat)), (12, .int .i64 k), (13, .pointer (some ⟨p13, 0, none⟩)), (31, .int .i64 i), (29, .slice ta tn tc), (30, .int .i64 tn), (9, .slice (some ⟨ob, 0, none⟩) R R), (4, .pointer (some ⟨p4, 0, none⟩)), (1, .slice aa an ac), (2, .slice ia n ic), (3, .int .i64 b)]) (fun x => [vecB (some ⟨ob, 0, none⟩) R R x.2, Ent.box p13 [.slice xa xn xc, .slice l2a l2n l2c, .int .i64 T.kind, .bool T.on.reg, .int .i64 T.on.n, .slice t2a t2n t2c] 65, Ent.box p4 [nm, pa, .int .i64 R, .slice ba n bc] 35]) (fun x => xn - x.1) (0, s')
        ⟨Nat.zero_le _, hsl', fun r => by simp⟩ (g_done (by repeat (first | exact trivial | refine ⟨rfl, ?_⟩)) (List.Sublist.refl _)) fun x ⟨hj3, hsl3, hs3⟩ => ?_
      obtain ⟨m, s3⟩ := x
      simp only at hj3 hsl3 hs3 ⊢
      repeat (first | refine g_op rfl ?_ | refine g_then ?_ | refine g_nil ?_ | refine g_region ?_ | refine g_seq ?_)
      refine g_cond (fun h3 => ?_) (fun h3 => ?_)
      · have hmlt : m < xn := by simpa using h3
        obtain ⟨p, hp⟩ := get_lt hxn hmlt
        have hadx : AddrIs xa xb xo := ⟨hxa (ne_of_get hp)⟩
        have hlm : LtIs m xn := ⟨hmlt⟩
        obtain ⟨csp, hcsp, sv, rfl, _, hsv⟩ := hxel m p hp
        have hciP : CellsIs w0 xb (xo + m * 2) _ := ⟨hcsp⟩
        have hpo := hTo.phis p (List.mem_of_getElem? hp)
        obtain ⟨s2a, s2n, s2c, s2b, s2o, rfl, hs2n, _, _, _, hs2a, hs2el⟩ := hsv
        obtain ⟨v, hv⟩ : ∃ v, p.src[ix]? = some v := ⟨_, List.getElem?_eq_getElem (by rw [hpo.len]; exact hidx)⟩
        have hads : AddrIs s2a s2b s2o := ⟨hs2a (ne_of_get hv)⟩
        have hlix : LtIs ix s2n := ⟨by rw [hs2n, hpo.len]; exact hidx⟩
        obtain ⟨csv, hcsv, rfl, _⟩ := hs2el ix v hv
        have hciV : CellsIs w0 s2b (s2o + ix * 2) _ := ⟨hcsv⟩
        have hvo := hpo.vals v (List.mem_of_getElem? hv)
        repeat (first | refine g_op rfl ?_ | refine g_then ?_ | refine g_nil ?_ | refine g_region ?_ | refine g_seq ?_ | refine g_alloc rfl fun _ _ => ?_ | refine g_storeAgg ?_ | refine g_block ?_ | refine g_skip ?_)
        rename_i p18 _
        refine g_sel [1, 0, 2, 3] (by decide) ?_
        refine g_eqH (H1 := [vecB (some ⟨ob, 0, none⟩) R R s3] ++ [Ent.box p18 [.int .i64 p.dst, .slice s2a s2n s2c] 97, Ent.box p13 [.slice xa xn xc, .slice l2a l2n l2c, .int .i64 T.kind, .bool T.on.reg, .int .i64 T.on.n, .slice t2a t2n t2c] 65, Ent.box p4 [nm, pa, .int .i64 R, .slice ba n bc] 35]) rfl ?_
        refine g_callS (val := fun _ : Unit => .tuple #[]) (E := fun _ => [vecB (some ⟨ob, 0, none⟩) R R (takeV s3 v)]) (φ := fun _ => True) rfl (fun w hw => take_c (some ⟨ob, 0, none⟩) R R s3 hsl3 v hvo w hw.pre) fun _ _ => ?_
        simp only [List.cons_append, List.nil_append]
        repeat (first | refine g_then ?_ | refine g_nil ?_ | refine g_region ?_ | refine g_opS rfl ?_ | refine g_inBlock ?_ | refine g_add rfl (by omega) (by omega) ?_)
        refine g_next (m + 1, takeV s3 v) ⟨hmlt, by rw [takeV_length]; exact hsl3, fun r => ?_⟩ (by simp only; omega) (by repeat (first | exact trivial | refine ⟨rfl, ?_⟩)) (List.Sublist.cons_cons _ (List.Sublist.cons _ (List.Sublist.refl _)))
        simp only
        rw [has_takeV (by rw [hsl3]; exact hvo), hs3 r]
        have hnm : namesR [p.src[ix]?.getD noV] r = true ↔ (v.reg = true ∧ v.n = r) := by rw [hv]; simp [namesR]
        constructor
        · rintro ((h | ⟨q, p', h4, h5, h6⟩) | h)
          · exact .inl h
          · exact .inr ⟨q, p', by omega, h5, h6⟩
          · exact .inr ⟨m, p, by omega, hp, hnm.2 h⟩
        · rintro (h | ⟨q, p', h4, h5, h6⟩)
          · exact .inl (.inl h)
          · by_cases e : q = m
            · subst e
              rw [hp] at h5
              simp only [Option.some.injEq] at h5
              subst h5
              exact .inr (hnm.1 h6)
            · exact .inl (.inr ⟨q, p', by omega, h5, h6⟩)
      · have hge3 : m = xn := by have := h3; simp at this; omega
        repeat (first | refine g_then ?_ | refine g_nil ?_ | refine g_region ?_ | refine g_opS rfl ?_ | refine g_inBlock ?_ | refine g_add rfl (by omega) (by omega) ?_ | refine g_exit ?_ | refine g_thenExit ?_ | refine g_exitHere ?_)
        refine g_next (i + 1, s3) ⟨hilt, hsl3, fun r => ?_⟩ (by simp only; omega) (by repeat (first | exact trivial | refine ⟨rfl, ?_⟩)) (List.Sublist.cons_cons _ (List.Sublist.cons _ (List.Sublist.refl _)))
        simp only
        rw [hs3 r, hs' r, hs r]
        have htk : takesR bl k b r = true ↔ ∃ q p, q < m ∧ T.phis[q]? = some p ∧ namesR [p.src[ix]?.getD noV] r = true := by
          unfold takesR
          rw [phisOf_get hT, List.any_eq_true, hix]
          constructor
          · rintro ⟨p, hp, h⟩
            obtain ⟨q, hq⟩ := List.getElem?_of_mem hp
            exact ⟨q, p, by have := (List.getElem?_eq_some_iff.1 hq).1; omega, hq, h⟩
          · rintro ⟨q, p, _, hq, h⟩
            exact ⟨p, List.mem_of_getElem? hq, h⟩
        have hIn : inOf rows k r ↔ (r < j ∧ has row r) := by
          unfold inOf
          rw [hrow]
          constructor
          · rintro ⟨s, e, h⟩
            simp only [Option.some.injEq] at e
            subst e
            exact ⟨by have := (List.getElem?_eq_some_iff.1 h).1; omega, h⟩
          · rintro ⟨_, h⟩; exact ⟨row, rfl, h⟩
        rw [← htk, ← hIn]
        constructor
        · rintro ((⟨t, ⟨q, h4, h5⟩, h6⟩ | h) | h)
          · exact ⟨t, ⟨q, by omega, h5⟩, h6⟩
          · exact ⟨k, ⟨i, by omega, htj⟩, .inr h⟩
          · exact ⟨k, ⟨i, by omega, htj⟩, .inl h⟩
        · rintro ⟨t, ⟨q, h4, h5⟩, h6⟩
          by_cases e : q = i
          · subst e
            rw [htj] at h5
            have h7 : (k : Int) = t := by simpa using h5
            have : k = t := by omega
            subst this
            rcases h6 with h6 | h6
            · exact .inr h6
            · exact .inl (.inr h6)
          · exact .inl (.inl ⟨t, ⟨q, by omega, h5⟩, h6⟩)
  · have hge : i = tn := by have := h1; simp at this; omega
    repeat (first | refine g_op rfl ?_ | refine g_then ?_ | refine g_nil ?_ | refine g_region ?_ | refine g_seq ?_ | refine g_exit ?_ | refine g_thenExit ?_ | refine g_exitHere ?_ | refine g_ret ?_)
    refine g_ret1 rfl fun w hw => ⟨(ob, s), rfl, hw.sel [0] (by decide), hsl, fun r => ?_⟩
    simp only
    rw [hs r]
    unfold Beh
    rw [toOf_get hB]
    constructor
    · rintro ⟨t, ⟨q, _, hq⟩, h⟩; exact ⟨t, List.mem_of_getElem? hq, h⟩
    · rintro ⟨t, ht, h⟩
      obtain ⟨q, hq⟩ := List.getElem?_of_mem ht
      exact ⟨t, ⟨q, by have := (List.getElem?_eq_some_iff.1 hq).1; omega, hq⟩, h⟩
end Go.Proofs.YtebajiafdkokjaaDoor

/- dom.TreeOf: what it returns. -/
namespace Go.Proofs.YtebajiafdkokjaaDoor
open Go Go.RowKit
attribute [local irreducible] wpListIn Code.wpIn Exit.then Exit.inBlock bodyPost wpQuiet wpAnyIn wpAnyH
set_option maxHeartbeats 8000000

theorem upSl {bl : List LBlock} {l : List Nat} {up : List Int} {k : Nat} (h : Inv bl l up k) {S : Nat → Prop} {w0 w : World} {H : List Ent} {a : Option Addr} {n c : Nat} (hw : Wd S w0 (Ent.vec a n c 3 1 (up.map (.int .i64)) :: H) w) (hn : n = up.length) (hb : n ≤ 1000) (hl : ∀ x ∈ l, x < 1000) : SlAt w (.slice a n c) 1 up IntV := by
  refine hw.slAt (k := 0) rfl hn (by omega) fun i x hx => ⟨[.int .i64 x], fun j v hj => ?_, rfl, ?_⟩
  · match j, hj with
    | 0, hj => simpa [hx] using hj
  · rcases h.neg i x hx with e | e
    · rw [e]; simp [inI]
    · have := hl _ (h.val i x.toNat (by rw [hx]; congr 1; omega)).2.1
      simp only [inI]; omega
theorem treeOf_c (nm pa re : Value) (bl : List LBlock) (bs : Value) (hbsl : ∃ a n c, bs = .slice a n c) (w0 : World) (hbs : SlAt w0 bs 6 bl BlockV) (hlen : bl.length ≤ 100) (hok : GoodB bl) (hto : ∀ (b : Nat) (B : LBlock), bl[b]? = some B → B.to.Nodup) (hpos : 0 < bl.length) :
    Ret Tryd.prog 73 [.agg #[nm, pa, re, bs]] w0 fun u w' => ∃ a : Nat, u = .slice (some ⟨a, 0, none⟩) bl.length bl.length ∧ Wd NoS w0 [Ent.vec (some ⟨a, 0, none⟩) bl.length bl.length 3 1 (((List.range bl.length).map (treeN bl)).map (.int .i64))] w' ∧ True := by
  obtain ⟨ba, n, bc, rfl⟩ := hbsl
  have hn : n = bl.length := by obtain ⟨_, _, _, _, _, e, h, _⟩ := hbs; simp only [Value.slice.injEq] at e; omega
  have ho := orderL_ord hok hpos
  have hol : (orderL bl).length = (postL bl).length := by unfold orderL; rw [List.length_reverse]
  have hpl := postL_len hpos
  refine ret_enter Tryd.func73 rfl Tryd.ntmps73 rfl (Wd.nil NoS w0) ?_
  repeat (first | refine g_op rfl ?_ | refine g_then ?_ | refine g_nil ?_ | refine g_region ?_ | refine g_seq ?_ | refine g_box rfl fun _ _ => ?_)
  rename_i p1 _
  refine g_callE (val := fun x : Option Addr × Nat => .slice x.1 (postL bl).length x.2) (E := fun x => [Ent.vec x.1 (postL bl).length x.2 3 1 ((orderL bl).map intN)]) (φ := fun _ => True) rfl (fun w hw => orderOf_c _ _ _ bl _ ⟨_, _, _, rfl⟩ w (hbs.keep keeps_block hw.chg) hlen hok hpos) fun x _ => ?_
  obtain ⟨xa, xc⟩ := x
  have hml : 0 < (orderL bl).length := by
    cases h : orderL bl with
    | nil => have := ho.zero; rw [h] at this; cases this
    | cons => simp
  have hlt : ∀ x ∈ orderL bl, x < bl.length := fun x hx => hok.rch hpos ((ho.mem x).1 hx)
  rw [← hol]
  generalize hl : orderL bl = l at *
  generalize hm : l.length = m at *
  simp only [List.cons_append, List.nil_append]
  repeat (first | refine g_op rfl ?_ | refine g_then ?_ | refine g_nil ?_ | refine g_region ?_ | refine g_seq ?_ | refine g_build1 rfl rfl fun _ _ => ?_ | refine g_make rfl (by omega) (by omega) fun _ _ => ?_)
  rename_i ta _ e1 _
  refine g_callE (val := fun a : Nat => .slice (some ⟨a, 0, none⟩) n n) (E := fun a => [Ent.vec (some ⟨a, 0, none⟩) n n 3 1 (List.replicate n (.int .i64 (-1)))]) (φ := fun _ => True) rfl (fun w hw => repeat_c e1 0 n (-1) w (hw.vecCell (k := 0) (o := 0) (j := 0) rfl rfl) (by omega) (by omega)) fun ua _ => ?_
  simp only [List.cons_append, List.nil_append]
  rw [show List.replicate n (Value.int .i64 (-1)) = (List.replicate n (-1 : Int)).map (.int .i64) by simp, show List.replicate n (Value.int .i64 0) = (List.replicate n (0 : Nat)).map intN by simp [intN]]
  refine g_vec 3 rfl (by omega) fun ob oo hxa => ?_
  subst hxa
  refine g_vecLe 3 rfl fun _ hmc hc63 => ?_
  repeat (first | refine g_op rfl ?_ | refine g_then ?_ | refine g_nil ?_ | refine g_region ?_ | refine g_seq ?_ | refine g_block ?_)
  refine g_loop (fun (x : Nat × List Nat) => x.1 ≤ m ∧ x.2.length = n ∧ (∀ j b : Nat, j < x.1 → l[j]? = some b → x.2[b]? = some j) ∧ ∀ y ∈ x.2, y ≤ 100000) (fun x => [(28, .int .i64 x.1), (27, .int .i64 m), (26, .slice (some ⟨ob, oo, none⟩) m xc), (3, .slice (some ⟨ob, oo, none⟩) m xc), (4, .slice (some ⟨ta, 0, none⟩) n n), (5, .slice (some ⟨ua, 0, none⟩) n n), (1, .pointer (some ⟨p1, 0, none⟩))])
    (fun x => [Ent.vec (some ⟨ua, 0, none⟩) n n 3 1 ((List.replicate n (-1 : Int)).map (.int .i64)), Ent.vec (some ⟨e1, 0, none⟩) 1 1 3 1 [.int .i64 (-1)], Ent.vec (some ⟨ta, 0, none⟩) n n 3 1 (x.2.map intN), Ent.vec (some ⟨ob, oo, none⟩) m xc 3 1 (l.map intN), Ent.box p1 [nm, pa, re, .slice ba n bc] 35]) (fun x => m - x.1) (0, List.replicate n 0) ⟨Nat.zero_le _, by simp, fun j b hj => by simp only at hj; omega, fun y hy => by rw [List.eq_of_mem_replicate hy]; omega⟩ (g_done (by repeat (first | exact trivial | refine ⟨rfl, ?_⟩)) (List.Sublist.refl _)) fun x ⟨hi, hxl, hall, hxb⟩ => ?_
  obtain ⟨i, xs⟩ := x
  simp only at hi hxl hall hxb ⊢
  repeat (first | refine g_op rfl ?_ | refine g_then ?_ | refine g_nil ?_ | refine g_region ?_ | refine g_seq ?_)
  refine g_cond (fun h1 => ?_) (fun h1 => ?_)
  · have hil : i < m := by simpa using h1
    obtain ⟨b, hb⟩ : ∃ b, l[i]? = some b := ⟨_, List.getElem?_eq_getElem (by omega)⟩
    have hbn : b < n := by rw [hn]; exact hlt b (List.mem_of_getElem? hb)
    have hli : LtIs i m := ⟨hil⟩
    have hea : ElAt l i b := ⟨hb⟩
    have hlb : LtIs b n := ⟨hbn⟩
    have hxa : XAt (l.map intN) (i * 1) (.int .i64 b) := ⟨by simp [hb, intN]⟩
    have hxs : XSet (xs.map intN) (b * 1) (.int .i64 (i : Int)) ((xs.set b i).map intN) := ⟨by simp [List.map_set, intN], by simp; omega⟩
    repeat (first | refine g_op rfl ?_ | refine g_then ?_ | refine g_nil ?_ | refine g_region ?_ | refine g_seq ?_ | refine g_opS rfl ?_ | refine g_inBlock ?_ | refine g_block ?_ | refine g_skip ?_ | refine g_add rfl (by omega) (by omega) ?_ | refine g_storeV ?_)
    refine g_next (i + 1, xs.set b i) ⟨hil, by simpa using hxl, fun j c hj hc => ?_, fun y hy => by
      rcases List.mem_or_eq_of_mem_set hy with h | h
      · exact hxb y h
      · rw [h]; omega⟩ (by simp only; omega) (by repeat (first | exact trivial | refine ⟨rfl, ?_⟩)) (List.Sublist.refl _)
    rw [List.getElem?_set]
    by_cases e : b = c
    · subst e
      rw [if_pos rfl, if_pos (by omega)]
      congr 1
      have h1 := rk_get ho.nodup hb
      rw [rk_get ho.nodup hc] at h1
      omega
    · rw [if_neg e]
      refine hall j c ?_ hc
      have : j ≠ i := fun e' => by subst e'; rw [hb] at hc; exact e (Option.some.inj hc)
      simp only at hj; omega
  have him : i = m := by have := h1; simp at this; omega
  clear hi h1
  rw [him] at hall
  have hat : ∀ b ∈ l, (xs.map (fun x : Nat => (x : Int)))[b]? = some ((rk l b : Nat) : Int) := by
    intro b hb
    have h1 := get_rk hb
    have h2 : rk l b < l.length := List.idxOf_lt_length_iff.2 hb
    rw [List.getElem?_map, hall (rk l b) b (by omega) h1]; rfl
  have hl0 : LtIs 0 n := ⟨by omega⟩
  have hxs0 : XSet ((List.replicate n (-1 : Int)).map (.int .i64)) (0 * 1) (.int .i64 0) (((List.replicate n (-1 : Int)).set 0 0).map (.int .i64)) := ⟨by simp [List.map_set], by simp; omega⟩
  have hI0 := inv_start hpos ho
  rw [← hn] at hI0
  generalize (List.replicate n (-1 : Int)).set 0 0 = up0 at hI0 hxs0
  repeat (first | refine g_op rfl ?_ | refine g_then ?_ | refine g_nil ?_ | refine g_region ?_ | refine g_seq ?_ | refine g_exit ?_ | refine g_thenExit ?_ | refine g_exitHere ?_ | refine g_storeV ?_)
  refine g_callE (val := fun x : (Option Addr × Nat × Nat) × (Nat → Prop) => .slice x.1.1 x.1.2.1 x.1.2.2) (E := fun x => [⟨x.2, fun w => SlAt w (.slice x.1.1 x.1.2.1 x.1.2.2) 1 (aheadL bl) RowV⟩]) (φ := fun _ => True) rfl (fun w hw => graphAhead_c _ _ _ bl _ w (hbs.keep keeps_block hw.chg) hlen hok) fun x _ => ?_
  obtain ⟨⟨aa, an, ac⟩, fp⟩ := x
  simp only [List.cons_append, List.nil_append]
  repeat (first | refine g_op rfl ?_ | refine g_then ?_ | refine g_nil ?_ | refine g_region ?_ | refine g_seq ?_ | refine g_block ?_)
  refine g_fix (L' := [(9, .bool true), (8, .slice aa an ac), (3, .slice (some ⟨ob, oo, none⟩) m xc), (4, .slice (some ⟨ta, 0, none⟩) n n), (5, .slice (some ⟨ua, 0, none⟩) n n), (1, .pointer (some ⟨p1, 0, none⟩))]) (by repeat (first | exact trivial | refine ⟨rfl, ?_⟩)) (List.Sublist.refl _) ?_
  refine g_permH (H1 := [Ent.vec (some ⟨ua, 0, none⟩) n n 3 1 (up0.map (.int .i64))] ++ [⟨fp, fun w => SlAt w (.slice aa an ac) 1 (aheadL bl) RowV⟩, Ent.vec (some ⟨e1, 0, none⟩) 1 1 3 1 [.int .i64 (-1)], Ent.vec (some ⟨ta, 0, none⟩) n n 3 1 (xs.map intN), Ent.vec (some ⟨ob, oo, none⟩) m xc 3 1 (l.map intN), Ent.box p1 [nm, pa, re, .slice ba n bc] 35]) (List.Perm.swap _ _ _) ?_
  refine g_holdK fun w1 hw1 => ?_
  have hbk : SlAt (killW (fps [Ent.vec (some ⟨ua, 0, none⟩) n n 3 1 (up0.map (.int .i64))]) w1) (.slice ba n bc) 6 bl BlockV := hbs.keep keeps_block hw1.killOld
  have hordk : SlAt (killW (fps [Ent.vec (some ⟨ua, 0, none⟩) n n 3 1 (up0.map (.int .i64))]) w1) (.slice (some ⟨ob, oo, none⟩) m xc) 1 (l.map (fun x : Nat => (x : Int))) IntV := ints_sl hw1.besides (k := 3) rfl hm.symm (by omega) fun x hx => by have := hlt x hx; omega
  have hatk : SlAt (killW (fps [Ent.vec (some ⟨ua, 0, none⟩) n n 3 1 (up0.map (.int .i64))]) w1) (.slice (some ⟨ta, 0, none⟩) n n) 1 (xs.map (fun x : Nat => (x : Int))) IntV := ints_sl hw1.besides (k := 2) rfl hxl.symm (by omega) hxb
  have hahk : SlAt (killW (fps [Ent.vec (some ⟨ua, 0, none⟩) n n 3 1 (up0.map (.int .i64))]) w1) (.slice aa an ac) 1 (aheadL bl) RowV := hw1.beside (e := ⟨fp, fun w => SlAt w (.slice aa an ac) 1 (aheadL bl) RowV⟩) (by simp)
  have back : ∀ {E : List Ent} {w : World}, Wd (fps [Ent.vec (some ⟨ua, 0, none⟩) n n 3 1 (up0.map (.int .i64))]) (killW (fps [Ent.vec (some ⟨ua, 0, none⟩) n n 3 1 (up0.map (.int .i64))]) w1) E w → Wd NoS w0 (E ++ [⟨fp, fun w => SlAt w (.slice aa an ac) 1 (aheadL bl) RowV⟩, Ent.vec (some ⟨e1, 0, none⟩) 1 1 3 1 [.int .i64 (-1)], Ent.vec (some ⟨ta, 0, none⟩) n n 3 1 (xs.map intN), Ent.vec (some ⟨ob, oo, none⟩) m xc 3 1 (l.map intN), Ent.box p1 [nm, pa, re, .slice ba n bc] 35]) w := fun hw => hw1.comp hw.unkill
  have hkk : ∀ {E : List Ent} {w : World}, Wd (fps [Ent.vec (some ⟨ua, 0, none⟩) n n 3 1 (up0.map (.int .i64))]) (killW (fps [Ent.vec (some ⟨ua, 0, none⟩) n n 3 1 (up0.map (.int .i64))]) w1) E w → ∀ p v, (killW (fps [Ent.vec (some ⟨ua, 0, none⟩) n n 3 1 (up0.map (.int .i64))]) w1).cell? p = some v → w.cell? p = some v := fun hw => hw.killKeep
  have hold : ∀ {b o : Nat} {v : Value}, CellsAt (killW (fps [Ent.vec (some ⟨ua, 0, none⟩) n n 3 1 (up0.map (.int .i64))]) w1) b o [v] → OldIs (fps [Ent.vec (some ⟨ua, 0, none⟩) n n 3 1 (up0.map (.int .i64))]) b := fun hc => killOldIs hc (by simp)
  generalize killW (fps [Ent.vec (some ⟨ua, 0, none⟩) n n 3 1 (up0.map (.int .i64))]) w1 = wk at *
  generalize fps [Ent.vec (some ⟨ua, 0, none⟩) n n 3 1 (up0.map (.int .i64))] = SS at *
  have hoel := hordk.known
  obtain ⟨hanl, hanc, _, ab, ao, haa, hahel⟩ := hahk.at
  have hal : (aheadL bl).length = n := by unfold aheadL; rw [aheadTo_length, hn]
  rw [hal] at hanl
  have hanl' := hanl.symm
  subst hanl'
  have hmsz : ∀ up : List Int, mass l m up ≤ mass l m up := fun _ => Nat.le_refl _
  refine g_loop (fun (x : List Int × Bool) => if x.2 then Inv bl l x.1 1 else (Inv bl l x.1 l.length ∧ ∀ v ∈ l, v ≠ 0 → Full bl x.1 v)) (fun x => [(9, .bool x.2), (8, .slice aa n ac), (3, .slice (some ⟨ob, oo, none⟩) m xc), (4, .slice (some ⟨ta, 0, none⟩) n n), (5, .slice (some ⟨ua, 0, none⟩) n n), (1, .pointer (some ⟨p1, 0, none⟩))])
    (fun x => [Ent.vec (some ⟨ua, 0, none⟩) n n 3 1 (x.1.map (.int .i64))]) (fun x => 2 * mass l m x.1 + if x.2 then 1 else 0) (up0, true) hI0 (g_done (by repeat (first | exact trivial | refine ⟨rfl, ?_⟩)) (List.Sublist.refl _)) fun x hI => ?_
  obtain ⟨up, more⟩ := x
  simp only at hI ⊢
  repeat (first | refine g_op rfl ?_ | refine g_then ?_ | refine g_nil ?_ | refine g_region ?_ | refine g_seq ?_)
  refine g_cond (fun h1 => ?_) (fun h1 => ?_)
  · subst h1
    simp only [if_true] at hI
    repeat (first | refine g_op rfl ?_ | refine g_then ?_ | refine g_nil ?_ | refine g_region ?_ | refine g_seq ?_ | refine g_opS rfl ?_ | refine g_block ?_ | refine g_skip ?_)
    refine g_cutTail rfl (by omega) fun a' ha' => ?_
    repeat (first | refine g_op rfl ?_ | refine g_then ?_ | refine g_nil ?_ | refine g_block ?_)
    refine g_loop (fun (x : Nat × List Int × Bool) => x.1 + 1 ≤ m ∧ Inv bl l x.2.1 (x.1 + 1) ∧ (x.2.2 = false → x.2.1 = up ∧ ∀ v ∈ l, v ≠ 0 → rk l v < x.1 + 1 → Full bl x.2.1 v) ∧ (x.2.2 = true → mass l m x.2.1 < mass l m up) ∧ mass l m x.2.1 ≤ mass l m up) (fun x => [(46, .int .i64 x.1), (44, .slice a' (m - 1) (xc - 1)), (45, .int .i64 ((m - 1 : Nat) : Int)), (9, .bool x.2.2), (8, .slice aa n ac), (3, .slice (some ⟨ob, oo, none⟩) m xc), (4, .slice (some ⟨ta, 0, none⟩) n n), (5, .slice (some ⟨ua, 0, none⟩) n n), (1, .pointer (some ⟨p1, 0, none⟩))])
      (fun x => [Ent.vec (some ⟨ua, 0, none⟩) n n 3 1 (x.2.1.map (.int .i64))]) (fun x => m - x.1) (0, up, false) ⟨by simp only; omega, hI, fun _ => ⟨rfl, fun v hv hv0 hr => absurd (rk_inj hv (List.mem_of_getElem? ho.zero) (by have := rk_zero ho; omega)) hv0⟩, fun h => (by cases h), Nat.le_refl _⟩ (g_done (by repeat (first | exact trivial | refine ⟨rfl, ?_⟩)) (List.Sublist.refl _)) fun x ⟨hk, hIk, hnm, hm1, hm2⟩ => ?_
    obtain ⟨k, up, more⟩ := x
    simp only at hk hIk hnm hm1 hm2 ⊢
    repeat (first | refine g_op rfl ?_ | refine g_then ?_ | refine g_nil ?_ | refine g_region ?_ | refine g_seq ?_)
    refine g_cond (fun h1 => ?_) (fun h1 => ?_)
    · have hkm : k < m - 1 := by simpa using h1
      obtain ⟨b, hb⟩ : ∃ b, l[k + 1]? = some b := ⟨_, List.getElem?_eq_getElem (by omega)⟩
      have hbl := List.mem_of_getElem? hb
      have hbn := hlt b hbl
      have hrb : rk l b = k + 1 := rk_get ho.nodup hb
      have hb0 : b ≠ 0 := fun e => by subst e; have := rk_zero ho; omega
      obtain ⟨_, hc1, rfl, _⟩ := hoel (k + 1) b (by rw [List.getElem?_map, hb]; rfl)
      have had : AddrIs a' ob (oo + 1) := ⟨ha' ob oo (by omega) rfl⟩
      have hlk : LtIs k (m - 1) := ⟨hkm⟩
      have hcb : CellsIs wk ob (oo + 1 + k * 1) [.int .i64 (b : Int)] := ⟨by rw [show oo + 1 + k * 1 = oo + (k + 1) * 1 by omega]; exact hc1⟩
      have ol1 : OldIs SS ob := hold hc1
      have harow := aheadL_get hok hto (t := b) hbn
      obtain ⟨_, hc2, v, rfl, hrow⟩ := hahel b _ harow
      have hada : AddrIs aa ab ao := ⟨haa (List.ne_nil_of_mem (List.mem_of_getElem? harow))⟩
      have hlb : LtIs b n := ⟨by omega⟩
      have hca : CellsIs wk ab (ao + b * 1) [v] := ⟨hc2⟩
      have ol2 : OldIs SS ab := hold hc2
      have hrow0 := hrow
      obtain ⟨ra, rn, rc, _, _, rfl, _⟩ := hrow0
      obtain ⟨hrn, hrnc, hrm, rb, ro, hra, hrel⟩ := hrow.at
      rw [List.length_map] at hrn
      have hps : ∀ p, p ∈ preds bl b ↔ (p < n ∧ Edge bl p b) := fun p => by simp [preds, Edge, hn]
      have hpn : (preds bl b).length ≤ 100 := by have := List.length_filter_le (fun i => decide ((b : Int) ∈ toOf bl i)) (List.range bl.length); rw [List.length_range] at this; unfold preds; omega
      generalize preds bl b = ps at *
      have hul := hIk.len
      repeat (first | refine g_op rfl ?_ | refine g_then ?_ | refine g_nil ?_ | refine g_region ?_ | refine g_seq ?_ | refine g_block ?_ | refine g_skip ?_)
      refine g_loop (fun (x : Nat × Int) => x.1 ≤ rn ∧ BestOf up (ps.take x.1) x.2) (fun x => [(55, .int .i64 x.1), (12, .int .i64 x.2), (53, .slice ra rn rc), (54, .int .i64 rn), (11, .int .i64 b), (46, .int .i64 k), (44, .slice a' (m - 1) (xc - 1)), (45, .int .i64 ((m - 1 : Nat) : Int)), (9, .bool more), (8, .slice aa n ac), (3, .slice (some ⟨ob, oo, none⟩) m xc), (4, .slice (some ⟨ta, 0, none⟩) n n), (5, .slice (some ⟨ua, 0, none⟩) n n), (1, .pointer (some ⟨p1, 0, none⟩))])
        (fun _ => [Ent.vec (some ⟨ua, 0, none⟩) n n 3 1 (up.map (.int .i64))]) (fun x => rn - x.1) (0, -1) ⟨Nat.zero_le _, by simpa using bestOf_nil up⟩ (g_done (by repeat (first | exact trivial | refine ⟨rfl, ?_⟩)) (List.Sublist.refl _)) fun x ⟨hj, hbest⟩ => ?_
      obtain ⟨j, z⟩ := x
      simp only at hj hbest ⊢
      repeat (first | refine g_op rfl ?_ | refine g_then ?_ | refine g_nil ?_ | refine g_region ?_ | refine g_seq ?_)
      refine g_cond (fun h2 => ?_) (fun h2 => ?_)
      · have hjl : j < rn := by simpa using h2
        obtain ⟨p, hp⟩ : ∃ p, ps[j]? = some p := ⟨_, List.getElem?_eq_getElem (by omega)⟩
        have hpm := (hps p).1 (List.mem_of_getElem? hp)
        have htk : ps.take (j + 1) = ps.take j ++ [p] := by rw [List.take_add_one, hp]; rfl
        obtain ⟨_, hc3, rfl, _⟩ := hrel j (p : Int) (by rw [List.getElem?_map, hp]; rfl)
        have hadr : AddrIs ra rb ro := ⟨hra (fun e => by rw [List.map_eq_nil_iff] at e; rw [e] at hp; cases hp)⟩
        have hlj : LtIs j rn := ⟨hjl⟩
        have hcr : CellsIs wk rb (ro + j * 1) [.int .i64 (p : Int)] := ⟨hc3⟩
        have ol3 : OldIs SS rb := hold hc3
        have hlp : LtIs p n := ⟨hpm.1⟩
        obtain ⟨q, hq⟩ : ∃ q, up[p]? = some q := ⟨_, List.getElem?_eq_getElem (by omega)⟩
        have hea : ElAt up p q := ⟨hq⟩
        repeat (first | refine g_op rfl ?_ | refine g_then ?_ | refine g_nil ?_ | refine g_region ?_ | refine g_seq ?_ | refine g_block ?_ | refine g_skip ?_)
        refine g_cond (fun h3 => ?_) (fun h3 => ?_)
        · have hq0 : q < 0 := by simpa using h3
          repeat (first | refine g_then ?_ | refine g_nil ?_ | refine g_region ?_ | refine g_opS rfl ?_ | refine g_inBlock ?_ | refine g_skip ?_ | refine g_add rfl (by omega) (by omega) ?_)
          refine g_next (j + 1, z) ⟨hjl, ?_⟩ (by simp only; omega) (by repeat (first | exact trivial | refine ⟨rfl, ?_⟩)) (List.Sublist.refl _)
          simp only
          rw [htk]
          exact hbest.pass fun ⟨c, hc⟩ => by rw [hq] at hc; have := Option.some.inj hc; omega
        · have hq0 : 0 ≤ q := by have := h3; simp at this; omega
          have hpp : Pr up p := ⟨q.toNat, by rw [hq]; congr 1; omega⟩
          repeat (first | refine g_op rfl ?_ | refine g_then ?_ | refine g_nil ?_ | refine g_region ?_ | refine g_seq ?_)
          refine g_cond (fun h4 => ?_) (fun h4 => ?_)
          · have hz0 : z < 0 := by simpa using h4
            repeat (first | refine g_op rfl ?_ | refine g_then ?_ | refine g_nil ?_ | refine g_region ?_ | refine g_opS rfl ?_ | refine g_inBlock ?_ | refine g_add rfl (by omega) (by omega) ?_)
            refine g_next (j + 1, (p : Int)) ⟨hjl, ?_⟩ (by simp only; omega) (by repeat (first | exact trivial | refine ⟨rfl, ?_⟩)) (List.Sublist.refl _)
            simp only
            rw [htk]
            exact hbest.first hz0 hpp
          · have hz0 : 0 ≤ z := by have := h4; simp at this; omega
            obtain ⟨c, rfl, hcp⟩ := hbest.pr hz0
            repeat (first | refine g_op rfl ?_ | refine g_region ?_)
            refine g_callE (val := fun z : Nat => .int .i64 (z : Int)) (E := fun _ => []) (φ := fun z => MeetIs up c p z) rfl (fun w hw => meet_c bl l ho up _ hIk _ hat (by omega) _ _ w (upSl hIk hw (by omega) (by omega) fun x hx => by have := hlt x hx; omega) (SlAt.mono (V := IntV) (w := wk) (w' := w) (fun _ _ h => h) (hkk hw) hatk) c p hcp hpp) fun z hz => ?_
            simp only [List.nil_append]
            repeat (first | refine g_then ?_ | refine g_nil ?_ | refine g_region ?_ | refine g_opS rfl ?_ | refine g_inBlock ?_ | refine g_add rfl (by omega) (by omega) ?_)
            refine g_next (j + 1, (z : Int)) ⟨hjl, ?_⟩ (by simp only; omega) (by repeat (first | exact trivial | refine ⟨rfl, ?_⟩)) (List.Sublist.refl _)
            simp only
            rw [htk]
            exact hbest.meet hpp hz
      · have hjr : j = rn := by have := h2; simp at this; omega
        rw [hjr, hrn, List.take_length] at hbest
        obtain ⟨q, hqj, hql, hqk, hqe⟩ : ∃ q, q ∈ ps ∧ q ∈ l ∧ rk l q < k + 1 ∧ Edge bl q b := by
          obtain ⟨j, q, hj, hqj, hqe⟩ := ho.ahead (k + 1) b hb hb0
          have hql := List.mem_of_getElem? hqj
          exact ⟨q, (hps q).2 ⟨by have := hlt q hql; omega, hqe⟩, hql, by rw [rk_get ho.nodup hqj]; exact hj, hqe⟩
        obtain ⟨z, rfl, hzp, hall'⟩ : ∃ c : Nat, z = c ∧ Pr up c ∧ ∀ y, Anc up y c ↔ ∀ p, Edge bl p b → Pr up p → Anc up y p := by
          rcases hbest with ⟨_, h⟩ | ⟨c, h1, h2, _, h3⟩
          · exact absurd (hIk.past q hql hqk) (h q hqj)
          · refine ⟨c, h1, h2, fun y => (h3 y).trans ⟨fun h p he hp => h p ((hps p).2 ⟨by have := hlt p (hIk.pr_mem hp); omega, he⟩) hp, fun h p hp hpp => h p ((hps p).1 hp).2 hpp⟩⟩
        obtain ⟨hIs, hless, _⟩ := hIk.step hok hpos ho (by omega) hb hzp hall'
        have hbu : b < up.length := by omega
        obtain ⟨x0, hx0⟩ : ∃ x, up[b]? = some x := ⟨_, List.getElem?_eq_getElem hbu⟩
        have hea : ElAt up b x0 := ⟨hx0⟩
        have hlen' : l.length = m := hm
        repeat (first | refine g_op rfl ?_ | refine g_then ?_ | refine g_nil ?_ | refine g_region ?_ | refine g_seq ?_ | refine g_exit ?_ | refine g_thenExit ?_ | refine g_exitHere ?_)
        refine g_cond (fun h3 => ?_) (fun h3 => ?_)
        · have hne : x0 ≠ (z : Int) := by simpa using h3
          have hfall := hIk.falls hzp hx0 hne hless
          rw [hlen'] at hfall
          have hxs : XSet (up.map (.int .i64)) (b * 1) (.int .i64 (z : Int)) ((up.set b (z : Int)).map (.int .i64)) := ⟨by simp [List.map_set], by simp; omega⟩
          repeat (first | refine g_op rfl ?_ | refine g_then ?_ | refine g_nil ?_ | refine g_region ?_ | refine g_opS rfl ?_ | refine g_inBlock ?_ | refine g_add rfl (by omega) (by omega) ?_ | refine g_storeV ?_)
          refine g_next (k + 1, up.set b (z : Int), true) ⟨by simp only; omega, hIs, fun h => (by cases h), fun _ => by simp only; omega, by simp only; omega⟩ (by simp only; omega) (by repeat (first | exact trivial | refine ⟨rfl, ?_⟩)) (List.Sublist.refl _)
        · have he : x0 = (z : Int) := by have := h3; simp at this; exact this
          subst he
          have hset : up.set b (z : Int) = up := set_self hx0
          rw [hset] at hIs
          repeat (first | refine g_then ?_ | refine g_nil ?_ | refine g_region ?_ | refine g_opS rfl ?_ | refine g_inBlock ?_ | refine g_skip ?_ | refine g_add rfl (by omega) (by omega) ?_)
          refine g_next (k + 1, up, more) ⟨by simp only; omega, hIs, fun h => ⟨(hnm h).1, fun v hv hv0 hr => ?_⟩, hm1, hm2⟩ (by simp only; omega) (by repeat (first | exact trivial | refine ⟨rfl, ?_⟩)) (List.Sublist.refl _)
          by_cases e : v = b
          · subst e; exact hIk.full hb0 hx0 hall'
          · refine (hnm h).2 v hv hv0 ?_
            have : rk l v ≠ k + 1 := fun e' => e (rk_inj hv hbl (by omega))
            simp only at hr; omega
    · have hkm : k + 1 = m := by have := h1; simp at this; omega
      rw [hkm] at hIk hnm
      repeat (first | refine g_then ?_ | refine g_inBlock ?_ | refine g_exit ?_ | refine g_thenExit ?_ | refine g_exitHere ?_)
      refine g_next (up, more) ?_ ?_ (by repeat (first | exact trivial | refine ⟨rfl, ?_⟩)) (List.Sublist.refl _)
      · cases more with
        | true => exact Inv.again ho (hm.symm ▸ hIk)
        | false =>
          refine ⟨hm.symm ▸ hIk, fun v hv hv0 => (hnm rfl).2 v hv hv0 ?_⟩
          rw [← hm]; exact List.idxOf_lt_length_iff.2 hv
      · cases more with
        | true => have := hm1 rfl; simp only [if_true]; omega
        | false => simp only [Bool.false_eq_true, if_true, if_false]; omega
  · subst h1
    simp only [Bool.false_eq_true, if_false] at hI
    have hul := hI.1.len
    have hxs2 : XSet (up.map (.int .i64)) (0 * 1) (.int .i64 (-1)) ((up.set 0 (-1)).map (.int .i64)) := ⟨by simp [List.map_set], by simp; omega⟩
    repeat (first | refine g_op rfl ?_ | refine g_then ?_ | refine g_nil ?_ | refine g_region ?_ | refine g_seq ?_ | refine g_exit ?_ | refine g_thenExit ?_ | refine g_exitHere ?_ | refine g_ret ?_ | refine g_storeV ?_)
    refine g_ret1 rfl fun w hw => ⟨ua, by rw [hn], ?_, trivial⟩
    have := back hw
    rw [hI.1.tree ho hI.2, ← hn] at this
    rw [← hn]
    exact this.sub (List.sublist_append_left _ _)
end Go.Proofs.YtebajiafdkokjaaDoor

/- turneryref3.Table: what it returns. -/
namespace Go.Proofs.YtebajiafdkokjaaDoor
open Go Go.RowKit
attribute [local irreducible] wpListIn Code.wpIn Exit.then Exit.inBlock bodyPost wpQuiet wpAnyIn wpAnyH
set_option maxHeartbeats 4000000

/-- of all blocks those that rule each -/
noncomputable def domL (bl : List LBlock) : List (List Int) := gridL (fun b a => Dom bl a b) bl.length
theorem domL_get {bl : List LBlock} {b : Nat} (hb : b < bl.length) : (domL bl)[b]? = some ((domTo bl b bl.length).map fun x : Nat => (x : Int)) := by
  unfold domL gridL
  rw [List.getElem?_map, List.getElem?_range hb]
  rfl
/-- rows as they stand: a is being looked at, for the blocks below b it is done -/
noncomputable def domAt (bl : List LBlock) (a b i : Nat) : List Int := (domTo bl i (if i < b then a + 1 else a)).map fun x : Nat => (x : Int)
theorem domTo_succ (bl : List LBlock) (i a : Nat) : domTo bl i (a + 1) = domTo bl i a ++ (open Classical in if Dom bl a i then [a] else []) := by
  classical
  exact filterTo_succ (p := fun c => Dom bl c i) a
theorem domAt_succ {bl : List LBlock} {a b i : Nat} : domAt bl a (b + 1) i = if i = b then domAt bl a b b ++ (open Classical in if Dom bl a b then [(a : Int)] else []) else domAt bl a b i := by
  classical
  unfold domAt
  by_cases h : i = b
  · subst h
    rw [if_pos rfl, if_pos (by omega), if_neg (by omega), domTo_succ, List.map_append]
    congr 1
    by_cases hd : Dom bl a i <;> simp [hd]
  · rw [if_neg h]
    by_cases h2 : i < b
    · rw [if_pos h2, if_pos (by omega)]
    · rw [if_neg h2, if_neg (by omega)]
theorem domAt_next {bl : List LBlock} {a n i : Nat} (hi : i < n) : domAt bl a n i = domAt bl (a + 1) 0 i := by
  unfold domAt
  rw [if_pos hi, if_neg (by omega)]
theorem domAt_none {bl : List LBlock} {a i : Nat} (h : ¬ Rch bl (-1) 0 a) : domAt bl (a + 1) 0 i = domAt bl a 0 i := by
  unfold domAt
  rw [if_neg (by omega), if_neg (by omega), domTo_succ, if_neg fun hd => h hd.1, List.append_nil]
theorem domAt_bd {bl : List LBlock} {a b i : Nat} (ha : a ≤ 100) : (domAt bl a b i).length ≤ 1000 ∧ ∀ x ∈ domAt bl a b i, inI x := by
  classical
  have h1 : (if i < b then a + 1 else a) ≤ 101 := by split <;> omega
  refine ⟨?_, fun x hx => ?_⟩
  · rw [domAt, List.length_map, domTo]
    have := List.length_filter_le (fun c => decide (Dom bl c i)) (List.range (if i < b then a + 1 else a))
    rw [List.length_range] at this
    omega
  · rw [domAt] at hx
    obtain ⟨y, hy, rfl⟩ := List.mem_map.1 hx
    have := (domTo_mem.1 hy).1
    simp only [inI]; omega
theorem refTable_c (nm pa re : Value) (bl : List LBlock) (bs : Value) (hbsl : ∃ a n c, bs = .slice a n c) (w0 : World) (hbs : SlAt w0 bs 6 bl BlockV) (hlen : bl.length ≤ 100) (hok : GoodB bl) (hpos : 0 < bl.length) :
    Ret Tryd.prog 74 [.agg #[nm, pa, re, bs]] w0 fun u w' => ∃ x : Nat × (Nat → Prop), u = .slice (some ⟨x.1, 0, none⟩) bl.length bl.length ∧ Wd NoS w0 [⟨x.2, fun w => SlAt w (.slice (some ⟨x.1, 0, none⟩) bl.length bl.length) 1 (domL bl) RowV⟩] w' ∧ True := by
  classical
  obtain ⟨ba, n, bc, rfl⟩ := hbsl
  have hn : n = bl.length := hbs.at.1
  refine ret_enter Tryd.func74 rfl Tryd.ntmps74 rfl (Wd.nil NoS w0) ?_
  repeat (first | refine g_op rfl ?_ | refine g_then ?_ | refine g_nil ?_ | refine g_region ?_ | refine g_seq ?_ | refine g_box rfl fun _ _ => ?_ | refine g_make rfl (by omega) (by omega) fun _ _ => ?_)
  rename_i p1 _ bo _
  refine g_nilVecs 3 1 n ?_
  rw [show (List.replicate n (Value.slice none 0 0)) = (List.replicate n (⟨none, 0, []⟩ : Row)).map valR by simp [valR], show (List.replicate n (Ent.vec none 0 0 3 1 [])) = (List.replicate n (⟨none, 0, []⟩ : Row)).map entR by simp [entR]]
  refine g_permH (H1 := Ent.box p1 [nm, pa, re, .slice ba n bc] 35 :: Ent.vec (some ⟨bo, 0, none⟩) n n 27 1 ((List.replicate n (⟨none, 0, []⟩ : Row)).map valR) :: (List.replicate n (⟨none, 0, []⟩ : Row)).map entR) (List.Perm.swap _ _ _) ?_
  refine g_callE (val := fun x : Option Addr × Nat × List Nat => .slice x.1 x.2.2.length x.2.1) (E := fun x => [Ent.vec x.1 x.2.2.length x.2.1 3 1 (x.2.2.map intN)]) (φ := fun x => FromR bl (-1) 0 x.2.2) rfl (fun w hw => reached_c _ _ _ bl _ ⟨_, _, _, rfl⟩ w (hbs.keep keeps_block hw.chg) hlen hok hpos) fun x hx => ?_
  obtain ⟨xa, xc, l⟩ := x
  simp only [List.cons_append, List.nil_append] at hx ⊢
  have hlb : l.length ≤ bl.length := nodup_len _ _ hx.1 hx.2.1
  have hmem : ∀ x : Nat, decide ((x : Int) ∈ l.map (fun x : Nat => (x : Int))) = decide (Rch bl (-1) 0 x) := fun x => by rw [decide_eq_decide, mem_ints, hx.2.2 x]; simp
  repeat (first | refine g_op rfl ?_ | refine g_then ?_ | refine g_nil ?_ | refine g_region ?_ | refine g_seq ?_ | refine g_block ?_)
  refine g_loop (fun (x : Nat × List Row) => x.1 ≤ n ∧ x.2.length = n ∧ ∀ i r, x.2[i]? = some r → r.l = domAt bl x.1 0 i) (fun x => [(5, .int .i64 x.1), (3, .slice (some ⟨bo, 0, none⟩) n n), (4, .slice xa l.length xc), (1, .pointer (some ⟨p1, 0, none⟩))])
    (fun x => Ent.vec xa l.length xc 3 1 (l.map intN) :: Ent.box p1 [nm, pa, re, .slice ba n bc] 35 :: Ent.vec (some ⟨bo, 0, none⟩) n n 27 1 (x.2.map valR) :: x.2.map entR) (fun x => n - x.1) (0, List.replicate n ⟨none, 0, []⟩)
    ⟨Nat.zero_le _, by simp, fun i r hr => ?_⟩ (g_done (by repeat (first | exact trivial | refine ⟨rfl, ?_⟩)) (List.Sublist.refl _)) fun x ⟨hi, hrl, hrows⟩ => ?_
  · simp only [List.getElem?_replicate] at hr
    split at hr
    · simp only [Option.some.injEq] at hr
      subst hr
      simp [domAt, domTo]
    · cases hr
  obtain ⟨a, rs⟩ := x
  simp only at hi hrl hrows ⊢
  repeat (first | refine g_op rfl ?_ | refine g_then ?_ | refine g_nil ?_ | refine g_region ?_ | refine g_seq ?_)
  refine g_cond (fun h1 => ?_) (fun h1 => ?_)
  · have hlt : a < n := by simpa using h1
    repeat (first | refine g_op rfl ?_ | refine g_then ?_ | refine g_region ?_ | refine g_seq ?_ | refine g_block ?_ | refine g_skip ?_)
    refine g_callV rfl (fun w hw => has_c _ (l.map (fun x : Nat => (x : Int))) a w (ints_sl hw (k := 0) rfl rfl (by omega) fun y hy => by have := hx.2.1 y hy; omega)) ?_
    rw [hmem]
    generalize he1 : decide (Rch bl (-1) 0 a) = e1
    cases e1
    · have hno : ¬ Rch bl (-1) 0 a := by simpa using he1
      repeat (first | refine g_op rfl ?_ | refine g_then ?_ | refine g_nil ?_ | refine g_region ?_ | refine g_opS rfl ?_ | refine g_condT ?_ | refine g_add rfl (by omega) (by omega) ?_ | refine g_exit ?_ | refine g_thenExit ?_ | refine g_exitHere ?_)
      refine g_next (a + 1, rs) ⟨hlt, hrl, fun i r hr => ?_⟩ (by simp only; omega) (by repeat (first | exact trivial | refine ⟨rfl, ?_⟩)) (List.Sublist.refl _)
      rw [hrows i r hr, domAt_none hno]
    have hra : Rch bl (-1) 0 a := by simpa using he1
    repeat (first | refine g_op rfl ?_ | refine g_then ?_ | refine g_nil ?_ | refine g_region ?_ | refine g_seq ?_ | refine g_skip ?_ | refine g_condF ?_)
    refine g_callE (val := fun x : Option Addr × Nat × List Nat => .slice x.1 x.2.2.length x.2.1) (E := fun x => [Ent.vec x.1 x.2.2.length x.2.1 3 1 (x.2.2.map intN)]) (φ := fun x => FromR bl a 0 x.2.2) rfl (fun w hw => refFrom_c _ _ _ bl _ 0 a w (hbs.keep keeps_block hw.chg) hlen hok hpos) fun y hy => ?_
    obtain ⟨ya, yc, lw⟩ := y
    simp only [List.cons_append, List.nil_append] at hy ⊢
    have hlwb : lw.length ≤ bl.length := nodup_len _ _ hy.1 hy.2.1
    have hmemw : ∀ x : Nat, decide ((x : Int) ∈ lw.map (fun x : Nat => (x : Int))) = decide ((0 : Int) ≠ a ∧ Rch bl a 0 x) := fun x => by rw [decide_eq_decide, mem_ints, hy.2.2 x]; rfl
    repeat (first | refine g_op rfl ?_ | refine g_then ?_ | refine g_nil ?_ | refine g_region ?_ | refine g_seq ?_ | refine g_block ?_)
    refine g_loop (fun (x : Nat × List Row) => x.1 ≤ n ∧ x.2.length = n ∧ ∀ i r, x.2[i]? = some r → r.l = domAt bl a x.1 i) (fun x => [(7, .int .i64 x.1), (6, .slice ya lw.length yc), (5, .int .i64 a), (3, .slice (some ⟨bo, 0, none⟩) n n), (4, .slice xa l.length xc), (1, .pointer (some ⟨p1, 0, none⟩))])
      (fun x => Ent.vec ya lw.length yc 3 1 (lw.map intN) :: Ent.vec xa l.length xc 3 1 (l.map intN) :: Ent.box p1 [nm, pa, re, .slice ba n bc] 35 :: Ent.vec (some ⟨bo, 0, none⟩) n n 27 1 (x.2.map valR) :: x.2.map entR) (fun x => n - x.1) (0, rs)
      ⟨Nat.zero_le _, hrl, hrows⟩ (g_done (by repeat (first | exact trivial | refine ⟨rfl, ?_⟩)) (List.Sublist.refl _)) fun x ⟨hj, hrl', hrows'⟩ => ?_
    obtain ⟨b, rs'⟩ := x
    simp only at hj hrl' hrows' ⊢
    repeat (first | refine g_op rfl ?_ | refine g_then ?_ | refine g_nil ?_ | refine g_region ?_ | refine g_seq ?_)
    refine g_cond (fun h2 => ?_) (fun h2 => ?_)
    · have hblt : b < n := by simpa using h2
      repeat (first | refine g_op rfl ?_ | refine g_then ?_ | refine g_region ?_ | refine g_seq ?_ | refine g_block ?_ | refine g_skip ?_)
      refine g_callV rfl (fun w hw => has_c _ (l.map (fun x : Nat => (x : Int))) b w (ints_sl hw (k := 1) rfl rfl (by omega) fun y hy => by have := hx.2.1 y hy; omega)) ?_
      rw [hmem]
      generalize he2 : decide (Rch bl (-1) 0 b) = e2
      have pass : ¬ Dom bl a b → ∀ i r, rs'[i]? = some r → r.l = domAt bl a (b + 1) i := fun hs i r hr => by
        rw [domAt_succ, if_neg hs, List.append_nil, hrows' i r hr]
        by_cases hib : i = b
        · subst hib; simp
        · simp [hib]
      have hadd : Dom bl a b → ∀ r a' c', rs'[b]? = some r → ∀ i q, (rs'.set b ⟨a', c', r.l ++ [(a : Int)]⟩)[i]? = some q → q.l = domAt bl a (b + 1) i := fun hs r a' c' hr i q hq => by
        have hbl := (List.getElem?_eq_some_iff.1 hr).1
        rw [domAt_succ]
        simp only [List.getElem?_set] at hq
        by_cases hib : b = i
        · subst hib
          simp only [if_true, hbl, Option.some.injEq] at hq
          subst hq
          simp only [if_true, if_pos hs]
          rw [hrows' b r hr]
        · rw [if_neg hib] at hq
          rw [if_neg (Ne.symm hib)]
          exact hrows' i q hq
      obtain ⟨r, hr⟩ : ∃ r, rs'[b]? = some r := ⟨_, List.getElem?_eq_getElem (by omega)⟩
      have hrb := domAt_bd (bl := bl) (a := a) (b := b) (i := b) (by omega)
      rw [← hrows' b r hr] at hrb
      have hli : LtIs b n := ⟨hblt⟩
      have hxa : XAt (rs'.map valR) (b * 1) (.slice r.a r.l.length r.c) := ⟨by simp [hr, valR]⟩
      have hbl : b < rs'.length := by omega
      cases e2
      · have hno : ¬ Rch bl (-1) 0 b := by simpa using he2
        repeat (first | refine g_op rfl ?_ | refine g_then ?_ | refine g_nil ?_ | refine g_region ?_ | refine g_opS rfl ?_ | refine g_pass rfl ?_ | refine g_inBlock ?_ | refine g_skip ?_ | refine g_condF ?_ | refine g_add rfl (by omega) (by omega) ?_ | refine g_passU rfl ?_)
        exact g_next (b + 1, rs') ⟨hblt, hrl', pass fun h => hno h.2.1⟩ (by simp only; omega) (by repeat (first | exact trivial | refine ⟨rfl, ?_⟩)) (List.Sublist.refl _)
      have hrb' : Rch bl (-1) 0 b := by simpa using he2
      repeat (first | refine g_op rfl ?_ | refine g_open ?_)
      by_cases hab : a = b
      · rw [show decide ((a : Int) = (b : Int)) = true by simp [hab]]
        have hD : Dom bl a b := ⟨hra, hrb', .inl hab⟩
        repeat (first | refine g_op rfl ?_ | refine g_then ?_ | refine g_nil ?_ | refine g_region ?_ | refine g_open ?_ | refine g_pass rfl ?_ | refine g_condT ?_ | refine g_build1 rfl rfl fun _ _ => ?_)
        rename_i bt _
        refine g_appendAt (b + 5) (xs := r.l.map (.int .i64)) (e := 3) (by simp [hr, entR]) rfl rfl (by omega) (by omega) fun a' c' => ?_
        refine g_eqH (H1 := Ent.vec (some ⟨bt, 0, none⟩) 1 1 3 1 [.int .i64 a] :: Ent.vec ya lw.length yc 3 1 (lw.map intN) :: Ent.vec xa l.length xc 3 1 (l.map intN) :: Ent.box p1 [nm, pa, re, .slice ba n bc] 35 :: Ent.vec (some ⟨bo, 0, none⟩) n n 27 1 (rs'.map valR) :: (rs'.set b ⟨a', c', r.l ++ [(a : Int)]⟩).map entR) (by simp [entR, List.map_set]) ?_
        have hxs : XSet (rs'.map valR) (b * 1) (.slice a' (r.l.length + 1) c') ((rs'.set b ⟨a', c', r.l ++ [(a : Int)]⟩).map valR) := ⟨by simp [valR, List.map_set], by simpa using hbl⟩
        repeat (first | refine g_op rfl ?_ | refine g_then ?_ | refine g_nil ?_ | refine g_region ?_ | refine g_opS rfl ?_ | refine g_inBlock ?_ | refine g_add rfl (by omega) (by omega) ?_ | refine g_storeV ?_)
        exact g_next (b + 1, rs'.set b ⟨a', c', r.l ++ [(a : Int)]⟩) ⟨hblt, by simpa using hrl', hadd hD r a' c' hr⟩ (by simp only; omega) (by repeat (first | exact trivial | refine ⟨rfl, ?_⟩)) (List.Sublist.cons _ (List.Sublist.refl _))
      · rw [show decide ((a : Int) = (b : Int)) = false by simp; omega]
        repeat (first | refine g_op rfl ?_ | refine g_open ?_)
        refine g_callV rfl (fun w hw => has_c _ (lw.map (fun x : Nat => (x : Int))) b w (ints_sl hw (k := 0) rfl rfl (by omega) fun y hy' => by have := hy.2.1 y hy'; omega)) ?_
        rw [hmemw]
        generalize he3 : decide ((0 : Int) ≠ a ∧ Rch bl a 0 b) = e3
        cases e3
        · have hD : Dom bl a b := ⟨hra, hrb', by
            have h : ¬ ((0 : Int) ≠ a ∧ Rch bl a 0 b) := by simpa using he3
            by_cases ha0 : a = 0
            · exact .inr (.inl ha0)
            · exact .inr (.inr fun hr => h ⟨by omega, hr⟩)⟩
          repeat (first | refine g_op rfl ?_ | refine g_then ?_ | refine g_nil ?_ | refine g_region ?_ | refine g_open ?_ | refine g_condT ?_ | refine g_build1 rfl rfl fun _ _ => ?_)
          rename_i bt _
          refine g_appendAt (b + 5) (xs := r.l.map (.int .i64)) (e := 3) (by simp [hr, entR]) rfl rfl (by omega) (by omega) fun a' c' => ?_
          refine g_eqH (H1 := Ent.vec (some ⟨bt, 0, none⟩) 1 1 3 1 [.int .i64 a] :: Ent.vec ya lw.length yc 3 1 (lw.map intN) :: Ent.vec xa l.length xc 3 1 (l.map intN) :: Ent.box p1 [nm, pa, re, .slice ba n bc] 35 :: Ent.vec (some ⟨bo, 0, none⟩) n n 27 1 (rs'.map valR) :: (rs'.set b ⟨a', c', r.l ++ [(a : Int)]⟩).map entR) (by simp [entR, List.map_set]) ?_
          have hxs : XSet (rs'.map valR) (b * 1) (.slice a' (r.l.length + 1) c') ((rs'.set b ⟨a', c', r.l ++ [(a : Int)]⟩).map valR) := ⟨by simp [valR, List.map_set], by simpa using hbl⟩
          repeat (first | refine g_op rfl ?_ | refine g_then ?_ | refine g_nil ?_ | refine g_region ?_ | refine g_opS rfl ?_ | refine g_inBlock ?_ | refine g_add rfl (by omega) (by omega) ?_ | refine g_storeV ?_)
          exact g_next (b + 1, rs'.set b ⟨a', c', r.l ++ [(a : Int)]⟩) ⟨hblt, by simpa using hrl', hadd hD r a' c' hr⟩ (by simp only; omega) (by repeat (first | exact trivial | refine ⟨rfl, ?_⟩)) (List.Sublist.cons _ (List.Sublist.refl _))
        · have hD : ¬ Dom bl a b := fun hd => by
            have h : (0 : Int) ≠ a ∧ Rch bl a 0 b := by simpa using he3
            rcases hd.2.2 with e | e | e
            · exact hab e
            · exact h.1 (by omega)
            · exact e h.2
          repeat (first | refine g_op rfl ?_ | refine g_then ?_ | refine g_nil ?_ | refine g_region ?_ | refine g_opS rfl ?_ | refine g_open ?_ | refine g_inBlock ?_ | refine g_skip ?_ | refine g_condF ?_ | refine g_add rfl (by omega) (by omega) ?_)
          exact g_next (b + 1, rs') ⟨hblt, hrl', pass hD⟩ (by simp only; omega) (by repeat (first | exact trivial | refine ⟨rfl, ?_⟩)) (List.Sublist.refl _)
    · have hge : b = n := by have := h2; simp at this; omega
      repeat (first | refine g_op rfl ?_ | refine g_then ?_ | refine g_nil ?_ | refine g_region ?_ | refine g_opS rfl ?_ | refine g_inBlock ?_ | refine g_add rfl (by omega) (by omega) ?_ | refine g_exit ?_ | refine g_thenExit ?_ | refine g_exitHere ?_)
      refine g_next (a + 1, rs') ⟨hlt, hrl', fun i q hq => ?_⟩ (by simp only; omega) (by repeat (first | exact trivial | refine ⟨rfl, ?_⟩)) (List.Sublist.cons _ (List.Sublist.refl _))
      have := (List.getElem?_eq_some_iff.1 hq).1
      rw [hrows' i q hq, hge, domAt_next (by simp only at this; omega)]
  · have hge : a = n := by have := h1; simp at this; omega
    repeat (first | refine g_op rfl ?_ | refine g_then ?_ | refine g_nil ?_ | refine g_region ?_ | refine g_seq ?_ | refine g_exit ?_ | refine g_thenExit ?_ | refine g_exitHere ?_ | refine g_ret ?_)
    refine g_ret1 rfl fun w hw => ⟨(bo, fps (Ent.vec (some ⟨bo, 0, none⟩) n n 27 1 (rs.map valR) :: rs.map entR)), by rw [hn], ?_, trivial⟩
    have hw' : Wd NoS w0 ((Ent.vec (some ⟨bo, 0, none⟩) n n 27 1 (rs.map valR) :: rs.map entR) ++ []) w := by rw [List.append_nil]; exact hw.sub (List.Sublist.cons _ (List.Sublist.cons _ (List.Sublist.refl _)))
    refine hw'.pack _ fun w2 hw2 => ?_
    have hrd : rs.map (·.l) = domL bl := by
      apply List.ext_getElem?
      intro i
      by_cases hin : i < n
      · rw [List.getElem?_map, List.getElem?_eq_getElem (by omega : i < rs.length), domL_get (by omega), Option.map_some, hrows i _ (List.getElem?_eq_getElem (by omega)), domAt, if_neg (by omega), hge, hn]
      · rw [List.getElem?_map, List.getElem?_eq_none (by omega), List.getElem?_eq_none (by unfold domL gridL; rw [List.length_map, List.length_range]; omega)]
        rfl
    rw [← hn, ← hrd]
    refine rows_sl (H := []) (by rw [List.append_nil]; exact hw2) hrl.symm (by omega) fun r hr => ?_
    obtain ⟨i, hi⟩ := List.getElem?_of_mem hr
    rw [hrows i r hi]
    exact domAt_bd (by omega)
end Go.Proofs.YtebajiafdkokjaaDoor

/- turneryref3.Tree, dom.Tree: what they return; the law DomTrees, walked. -/
namespace Go.Proofs.YtebajiafdkokjaaDoor
open Go Go.RowKit
attribute [local irreducible] wpListIn Code.wpIn Exit.then Exit.inBlock bodyPost wpQuiet wpAnyIn wpAnyH
set_option maxHeartbeats 4000000

theorem refTree_c (nm pa re : Value) (bl : List LBlock) (bs : Value) (hbsl : ∃ a n c, bs = .slice a n c) (w0 : World) (hbs : SlAt w0 bs 6 bl BlockV) (hlen : bl.length ≤ 100) (hok : GoodB bl) (hpos : 0 < bl.length) :
    Ret Tryd.prog 39 [.agg #[nm, pa, re, bs]] w0 fun u w' => ∃ x : Option Addr × Nat, u = .slice x.1 bl.length x.2 ∧ Wd NoS w0 [Ent.vec x.1 bl.length x.2 3 1 (((List.range bl.length).map (treeN bl)).map (.int .i64))] w' ∧ True := by
  classical
  refine ret_enter Tryd.func39 rfl Tryd.ntmps39 rfl (Wd.nil NoS w0) ?_
  repeat (first | refine g_op rfl ?_ | refine g_then ?_ | refine g_nil ?_ | refine g_region ?_ | refine g_seq ?_ | refine g_box rfl fun _ _ => ?_)
  rename_i p1 _
  refine g_callE (val := fun x : Nat × (Nat → Prop) => .slice (some ⟨x.1, 0, none⟩) bl.length bl.length) (E := fun x => [⟨x.2, fun w => SlAt w (.slice (some ⟨x.1, 0, none⟩) bl.length bl.length) 1 (domL bl) RowV⟩]) (φ := fun _ => True) rfl (fun w hw => refTable_c _ _ _ bl _ hbsl w (hbs.keep keeps_block hw.chg) hlen hok hpos) fun x _ => ?_
  obtain ⟨to, fp⟩ := x
  simp only [List.cons_append, List.nil_append]
  generalize hn : bl.length = n at *
  repeat (first | refine g_op rfl ?_ | refine g_then ?_ | refine g_nil ?_ | refine g_region ?_ | refine g_seq ?_ | refine g_block ?_)
  refine g_nilVec 3 1 ?_
  refine g_eqH (H1 := [Ent.vec none 0 0 3 1 []] ++ [⟨fp, fun w => SlAt w (.slice (some ⟨to, 0, none⟩) n n) 1 (domL bl) RowV⟩, Ent.box p1 [nm, pa, re, bs] 35]) rfl ?_
  refine g_holdK fun w1 hw1 => ?_
  have htk : SlAt (killW (fps [Ent.vec none 0 0 3 1 []]) w1) (.slice (some ⟨to, 0, none⟩) n n) 1 (domL bl) RowV := hw1.beside (e := ⟨fp, fun w => SlAt w (.slice (some ⟨to, 0, none⟩) n n) 1 (domL bl) RowV⟩) (by simp)
  have back : ∀ {E : List Ent} {w : World}, Wd (fps [Ent.vec none 0 0 3 1 []]) (killW (fps [Ent.vec none 0 0 3 1 []]) w1) E w → Wd NoS w0 (E ++ [⟨fp, fun w => SlAt w (.slice (some ⟨to, 0, none⟩) n n) 1 (domL bl) RowV⟩, Ent.box p1 [nm, pa, re, bs] 35]) w := fun hw => hw1.comp hw.unkill
  have hold : ∀ {b o : Nat} {v : Value}, CellsAt (killW (fps [Ent.vec none 0 0 3 1 []]) w1) b o [v] → OldIs (fps [Ent.vec none 0 0 3 1 []]) b := fun hc => killOldIs hc (by simp)
  generalize killW (fps [Ent.vec none 0 0 3 1 []]) w1 = wk at *
  generalize fps [Ent.vec none 0 0 3 1 []] = SS at *
  have row : ∀ b, b < n → ∃ (a : Option Addr) (c rb ro : Nat), CellsIs wk to (0 + b * 1) [.slice a (domTo bl b n).length c] ∧ OldIs SS to ∧ (domTo bl b n).length ≤ n ∧ ((domTo bl b n) ≠ [] → AddrIs a rb ro) ∧ ∀ (i : Nat) x, (domTo bl b n)[i]? = some x → CellsIs wk rb (ro + i * 1) [.int .i64 (x : Int)] ∧ OldIs SS rb := by
    intro b hb
    obtain ⟨_, hc, v, rfl, hv⟩ := htk.known b _ (domL_get (by omega))
    have hv0 := hv
    obtain ⟨ra, rn, rc, _, _, rfl, _⟩ := hv0
    obtain ⟨hrn, _, _, rb, ro, hra, hrel⟩ := hv.at
    rw [List.length_map, hn] at hrn
    subst hrn
    rw [hn] at hra hrel
    refine ⟨ra, rc, rb, ro, ⟨hc⟩, hold hc, ?_, fun h => ⟨hra fun e => h (List.map_eq_nil_iff.1 e)⟩, fun i x hx => ?_⟩
    · have := List.length_filter_le (fun c => decide (Dom bl c b)) (List.range n)
      rw [List.length_range] at this; exact this
    · obtain ⟨_, hc2, rfl, _⟩ := hrel i x (by rw [List.getElem?_map, hx]; rfl)
      exact ⟨⟨hc2⟩, hold hc2⟩
  refine g_loop (fun (x : Option Addr × Nat × List Int) => x.2.2.length ≤ n ∧ x.2.2 = (List.range x.2.2.length).map (treeN bl)) (fun x => [(5, .int .i64 x.2.2.length), (4, .slice x.1 x.2.2.length x.2.1), (3, .slice (some ⟨to, 0, none⟩) n n)])
    (fun x => [Ent.vec x.1 x.2.2.length x.2.1 3 1 (x.2.2.map (.int .i64))]) (fun x => n - x.2.2.length) (none, 0, []) ⟨Nat.zero_le _, rfl⟩ (g_done (by repeat (first | exact trivial | refine ⟨rfl, ?_⟩)) (List.Sublist.refl _)) fun x ⟨hi, hall⟩ => ?_
  obtain ⟨oa, oc, l⟩ := x
  simp only at hi hall ⊢
  repeat (first | refine g_op rfl ?_ | refine g_then ?_ | refine g_nil ?_ | refine g_region ?_ | refine g_seq ?_)
  refine g_cond (fun h1 => ?_) (fun h1 => ?_)
  · have hlt : l.length < n := by simpa using h1
    generalize hb : l.length = b at *
    have hlb : LtIs b n := ⟨hlt⟩
    obtain ⟨ra, rc, rb, ro, hcr, hor, hrl, hra, hrel⟩ := row b hlt
    repeat (first | refine g_op rfl ?_ | refine g_then ?_ | refine g_nil ?_ | refine g_region ?_ | refine g_seq ?_ | refine g_block ?_ | refine g_skip ?_)
    refine g_loop (fun (x : Nat × Int) => x.1 ≤ (domTo bl b n).length ∧ ((x.2 = -1 ∧ ∀ (j c : Nat), j < x.1 → (domTo bl b n)[j]? = some c → ¬ IDom bl c b) ∨ ∃ c : Nat, x.2 = c ∧ IDom bl c b)) (fun x => [(7, .int .i64 x.1), (6, .int .i64 x.2), (5, .int .i64 b), (4, .slice oa b oc), (3, .slice (some ⟨to, 0, none⟩) n n)])
      (fun _ => [Ent.vec oa b oc 3 1 (l.map (.int .i64))]) (fun x => (domTo bl b n).length - x.1) (0, -1) ⟨Nat.zero_le _, .inl ⟨rfl, fun j c hj => by simp only at hj; omega⟩⟩ (g_done (by repeat (first | exact trivial | refine ⟨rfl, ?_⟩)) (List.Sublist.refl _)) fun x ⟨hj, hz⟩ => ?_
    obtain ⟨i, z⟩ := x
    simp only at hj hz ⊢
    repeat (first | refine g_op rfl ?_ | refine g_then ?_ | refine g_nil ?_ | refine g_region ?_ | refine g_seq ?_)
    refine g_cond (fun h2 => ?_) (fun h2 => ?_)
    · have hil : i < (domTo bl b n).length := by simpa using h2
      obtain ⟨x, hx⟩ : ∃ x, (domTo bl b n)[i]? = some x := ⟨_, List.getElem?_eq_getElem hil⟩
      obtain ⟨hxn, hxd⟩ := domTo_mem.1 (List.mem_of_getElem? hx)
      have hlx : LtIs x n := ⟨hxn⟩
      have hli : LtIs i (domTo bl b n).length := ⟨hil⟩
      have had := hra (List.ne_nil_of_mem (List.mem_of_getElem? hx))
      obtain ⟨hcx, hox⟩ := hrel i x hx
      obtain ⟨xa, xc, _, _, hcr2, _, hxl, _⟩ := row x hxn
      have hiff : decide (((domTo bl x n).length : Int) = ((domTo bl b n).length : Int) - 1) = decide (IDom bl x b) := by
        rw [decide_eq_decide]
        subst hn
        exact ⟨fun h => idom_less hok hpos hxd (by omega), fun h => by have := idom_has hok hpos h; omega⟩
      repeat (first | refine g_then ?_ | refine g_seq ?_ | refine g_block ?_ | refine g_skip ?_)
      refine g_draw mixed (by kernel_rfl) ?_
      repeat (first | refine q_op rfl ?_ | refine q_sub rfl (by omega) (by omega) ?_ | refine q_nil ?_)
      rw [hiff]
      repeat (refine g_then ?_)
      refine g_cond (fun h3 => ?_) (fun h3 => ?_)
      · have hid : IDom bl x b := by simpa using h3
        repeat (first | refine g_op rfl ?_ | refine g_then ?_ | refine g_nil ?_ | refine g_region ?_ | refine g_opS rfl ?_ | refine g_inBlock ?_ | refine g_add rfl (by omega) (by omega) ?_)
        exact g_next (i + 1, (x : Int)) ⟨hil, .inr ⟨x, rfl, hid⟩⟩ (by simp only; omega) (by repeat (first | exact trivial | refine ⟨rfl, ?_⟩)) (List.Sublist.refl _)
      · have hid : ¬ IDom bl x b := by simpa using h3
        repeat (first | refine g_op rfl ?_ | refine g_then ?_ | refine g_nil ?_ | refine g_region ?_ | refine g_opS rfl ?_ | refine g_inBlock ?_ | refine g_skip ?_ | refine g_add rfl (by omega) (by omega) ?_)
        refine g_next (i + 1, z) ⟨hil, hz.imp (fun ⟨h1, h2⟩ => ⟨h1, fun j c hj hc => ?_⟩) id⟩ (by simp only; omega) (by repeat (first | exact trivial | refine ⟨rfl, ?_⟩)) (List.Sublist.refl _)
        by_cases e : j = i
        · subst e
          rw [hx] at hc
          exact Option.some.inj hc ▸ hid
        · exact h2 j c (by simp only at hj; omega) hc
    · have hge : i = (domTo bl b n).length := by have := h2; simp at this; omega
      have hzt : z = treeN bl b := by
        rcases hz with ⟨h1, h2⟩ | ⟨c, h1, h2⟩
        · rw [h1, treeN_none]
          intro c hc
          have hm : c ∈ domTo bl b n := domTo_mem.2 ⟨by have := hok.rch (by omega) hc.1.1; omega, hc.1⟩
          obtain ⟨j, hj⟩ := List.getElem?_of_mem hm
          exact h2 j c (by rw [hge]; exact (List.getElem?_eq_some_iff.1 hj).1) hj hc
        · rw [h1, treeN_eq h2]
      repeat (first | refine g_op rfl ?_ | refine g_then ?_ | refine g_region ?_ | refine g_exit ?_ | refine g_thenExit ?_ | refine g_exitHere ?_ | refine g_build1 rfl rfl fun _ _ => ?_)
      rename_i bt _
      refine g_append rfl rfl (by omega) (by omega) fun a' c' => ?_
      repeat (first | refine g_op rfl ?_ | refine g_then ?_ | refine g_nil ?_ | refine g_region ?_ | refine g_opS rfl ?_ | refine g_inBlock ?_ | refine g_add rfl (by omega) (by omega) ?_)
      refine g_eqH (H1 := Ent.vec (some ⟨bt, 0, none⟩) 1 1 3 1 [.int .i64 z] :: [Ent.vec a' (b + 1) c' 3 1 ((l ++ [z]).map (.int .i64))]) (by simp) ?_
      have hl1 : (l ++ [z]).length = b + 1 := by simp [hb]
      rw [show ((b : Int) + 1) = (((l ++ [z]).length : Nat) : Int) by rw [hl1]; rfl, ← hl1]
      refine g_next (a', c', l ++ [z]) ⟨by simp only; omega, ?_⟩ (by simp only; omega) (by repeat (first | exact trivial | refine ⟨rfl, ?_⟩)) (List.Sublist.cons _ (List.Sublist.refl _))
      simp only
      rw [hl1, List.range_succ, List.map_append, ← hall, hzt]; rfl
  · have hge : l.length = n := by have := h1; simp at this; omega
    repeat (first | refine g_op rfl ?_ | refine g_then ?_ | refine g_nil ?_ | refine g_region ?_ | refine g_seq ?_ | refine g_exit ?_ | refine g_thenExit ?_ | refine g_exitHere ?_ | refine g_ret ?_)
    refine g_ret1 rfl fun w hw => ⟨(oa, oc), by rw [hge], ?_, trivial⟩
    have := back hw
    rw [hge] at hall this
    rw [← hall]
    exact this.sub (List.sublist_append_left _ _)
end Go.Proofs.YtebajiafdkokjaaDoor

/- dom.Tree: what it returns; the law DomTrees, walked. -/
namespace Go.Proofs.YtebajiafdkokjaaDoor
open Go Go.RowKit
attribute [local irreducible] wpListIn Code.wpIn Exit.then Exit.inBlock bodyPost wpQuiet wpAnyIn wpAnyH
set_option maxHeartbeats 4000000

noncomputable def treeL (bl : List LBlock) : List Int := (List.range bl.length).map (treeN bl)
theorem treeN_cases (bl : List LBlock) (b : Nat) : treeN bl b = -1 ∨ ∃ c : Nat, treeN bl b = c ∧ IDom bl c b := by
  by_cases h : ∃ c, IDom bl c b
  · obtain ⟨c, hc⟩ := h
    exact .inr ⟨c, treeN_eq hc, hc⟩
  · exact .inl (treeN_none fun c hc => h ⟨c, hc⟩)
theorem treeL_in {bl : List LBlock} (hok : GoodB bl) (hpos : 0 < bl.length) (hlen : bl.length ≤ 100) : ∀ x ∈ treeL bl, inI x := by
  intro x hx
  obtain ⟨b, _, rfl⟩ := List.mem_map.1 hx
  rcases treeN_cases bl b with h | ⟨c, h, hc⟩
  · rw [h]; simp [inI]
  · rw [h]
    have := hok.rch hpos hc.1.1
    simp only [inI]; omega
theorem tree_bad (u : LUnit) (hl : light u) (k : Int) (hk : inI k) (hbad : (askedL u k).1 ≠ 0) (g fs : Value) (w0 : World) (hg : SlAt w0 g 3 u.globals GlobalV) (hf : SlAt w0 fs 4 u.funcs FuncV) (hways : CellsAt w0 0 0 waysC) :
    RetV Tryd.prog 38 [.agg #[g, fs], .int .i64 k] w0 (.tuple #[.slice none 0 0, .agg #[.int .i64 (askedL u k).1, .int .i64 (askedL u k).2]]) := by
  have hg0 := hg
  have hf0 := hf
  obtain ⟨ga, gn, gc, gb, go, rfl, _⟩ := hg
  obtain ⟨fa, fn, fc, fb, fo, rfl, _⟩ := hf
  refine ret_enter Tryd.func38 rfl Tryd.ntmps38 rfl (Wd.nil NoS w0) ?_
  repeat (first | refine g_op rfl ?_ | refine g_then ?_ | refine g_nil ?_ | refine g_region ?_ | refine g_seq ?_ | refine g_box rfl fun _ _ => ?_ | refine g_alloc rfl fun _ _ => ?_)
  rename_i p2 _ p5 _
  refine g_callV rfl (fun w hw => func_bad u hl k hk hbad _ _ w (hg0.keep keeps_global hw.chg) (hf0.keep keeps_func hw.chg) (hways.keep hw.chg)) ?_
  unfold zeroFn
  repeat (first | refine g_op rfl ?_ | refine g_then ?_ | refine g_nil ?_ | refine g_region ?_ | refine g_seq ?_ | refine g_alloc rfl fun _ _ => ?_ | refine g_storeAgg ?_)
  rename_i p6 _ p7 _
  refine g_cond (fun h1 => ?_) (fun h1 => ?_)
  · repeat (refine g_seq ?_)
    refine g_drawW [(4, .slice none 0 0), (5, .pointer (some ⟨p5, 0, none⟩))] [Ent.box p5 [.int .i64 (askedL u k).1, .int .i64 (askedL u k).2] 29] mixed ?_ ?_
    · repeat' (first | refine g_any0 (by decide +kernel) ?_ | refine g_any (by decide +kernel) ?_ | refine any_nil | refine any_skip (by decide +kernel) ?_ | refine any_cons ?_ ?_ | refine g_op rfl ?_ | refine g_then ?_ | refine g_nil ?_ | refine g_opS rfl ?_ | refine g_storeAgg ?_)
      all_goals exact g_done (by repeat (first | exact trivial | refine ⟨rfl, ?_⟩)) (by simp)
    · repeat (first | refine g_then ?_ | refine g_ret ?_ | refine g_thenRet ?_)
      exact g_retTC rfl fun _ hw => ⟨rfl, hw.chg⟩
  · exact absurd h1 (by simp [hbad])
theorem tree_ok (u : LUnit) (hl : light u) (k : Nat) (hgood : (askedL u k).1 = 0) (X : LFunc) (hX : u.funcs[k]? = some X) (hok : GoodB X.blocks) (hpos : 0 < X.blocks.length) (hch : (checkL u).1 = 0) (g fs : Value) (w0 : World) (hg : SlAt w0 g 3 u.globals GlobalV) (hf : SlAt w0 fs 4 u.funcs FuncV) (hways : CellsAt w0 0 0 waysC) :
    Ret Tryd.prog 38 [.agg #[g, fs], .int .i64 k] w0 fun v w' => ∃ x : Option Addr × Nat, v = .tuple #[.slice x.1 X.blocks.length x.2, .agg #[.int .i64 0, .int .i64 0]] ∧ Wd NoS w0 [Ent.vec x.1 X.blocks.length x.2 3 1 ((treeL X.blocks).map (.int .i64))] w' ∧ True := by
  classical
  have hg0 := hg
  have hf0 := hf
  obtain ⟨ga, gn, gc, gb, go, rfl, _⟩ := hg
  obtain ⟨fa, fn, fc, fb, fo, rfl, _⟩ := hf
  have hlx := hl.2 X (List.mem_of_getElem? hX)
  have h24 := hlx.1
  obtain ⟨bv, hbv, hfc⟩ := func_ok u hl k hgood _ _ X hX w0 hg0 hf0 hways
  have hbv0 := hbv
  obtain ⟨ba, n, bc, bb, bo', rfl, hn, hnc, hnb, hbc, hba, hel⟩ := hbv
  obtain ⟨R, hXR, hR, hFO⟩ := check_func hch hX
  refine ret_enter Tryd.func38 rfl Tryd.ntmps38 rfl (Wd.nil NoS w0) ?_
  repeat (first | refine g_op rfl ?_ | refine g_then ?_ | refine g_nil ?_ | refine g_region ?_ | refine g_seq ?_ | refine g_box rfl fun _ _ => ?_ | refine g_alloc rfl fun _ _ => ?_)
  rename_i p2 _ p5 _
  refine g_callV rfl (fun w hw => hfc w hw.chg) ?_
  repeat (first | refine g_op rfl ?_ | refine g_then ?_ | refine g_nil ?_ | refine g_region ?_ | refine g_seq ?_ | refine g_alloc rfl fun _ _ => ?_ | refine g_storeAgg ?_ | refine g_skip ?_ | refine g_condF ?_)
  rename_i p6 _ p7 _
  refine g_drawE (fun z : Option Addr × Nat => [(4, .slice z.1 X.blocks.length z.2), (5, .pointer (some ⟨p5, 0, none⟩))]) (fun z => [Ent.vec z.1 X.blocks.length z.2 3 1 ((treeL X.blocks).map (.int .i64)), Ent.box p5 [.int .i64 0, .int .i64 0] 29]) mixed ?_ fun z => ?_
  · repeat' (first | refine g_any (by decide +kernel) ?_ | refine any_nil | refine any_skip (by decide +kernel) ?_ | refine any_cons ?_ ?_ | refine g_op rfl ?_ | refine g_then ?_ | refine g_nil ?_)
    all_goals
      refine g_callE (val := fun x : Option Addr × Nat => .slice x.1 X.blocks.length x.2) (E := fun x => [Ent.vec x.1 X.blocks.length x.2 3 1 ((treeL X.blocks).map (.int .i64))]) (φ := fun _ => True) rfl (fun w hw => (treeOf_c _ _ _ X.blocks _ ⟨_, _, _, rfl⟩ w (hbv0.keep keeps_block hw.chg) (by omega) hok (fun b B hB => (hFO.block b B hB).to) hpos).mono fun v w' ⟨a, h1, h2, _⟩ => ⟨(some ⟨a, 0, none⟩, X.blocks.length), h1, h2, trivial⟩) fun x _ => ?_
      obtain ⟨xa, xc⟩ := x
      simp only [List.cons_append, List.nil_append]
      repeat' (first | refine g_any0 (by decide +kernel) ?_ | refine g_any (by decide +kernel) ?_ | refine any_nil | refine any_skip (by decide +kernel) ?_ | refine any_cons ?_ ?_ | refine g_op rfl ?_ | refine g_then ?_ | refine g_nil ?_ | refine g_opS rfl ?_ | refine g_storeAgg ?_)
      all_goals exact g_doneE (xa, xc) (by repeat (first | exact trivial | refine ⟨rfl, ?_⟩)) (by simp)
  · repeat (first | refine g_then ?_ | refine g_ret ?_)
    exact g_retTC rfl fun w hw => ⟨z, rfl, hw.sel [0] (by decide), trivial⟩

theorem treeLaw_c (u : LUnit) (k : Int) (hk : inI k) (g fs : Value) (w0 : World) (hg : SlAt w0 g 3 u.globals GlobalV) (hf : SlAt w0 fs 4 u.funcs FuncV) (hways : CellsAt w0 0 0 waysC) :
    RetV Tryd.prog 11 [.agg #[g, fs], .int .i64 k] w0 (.bool true) := by
  classical
  have hg0 := hg
  have hf0 := hf
  obtain ⟨ga, gn, gc, gb, go, rfl, _⟩ := hg
  obtain ⟨fa, fn, fc, fb, fo, rfl, hfn, hfnc, hfnb, hfc, hfa, hfel⟩ := hf
  refine ret_enter Tryd.func11 rfl Tryd.ntmps11 rfl (Wd.nil NoS w0) ?_
  repeat (first | refine g_op rfl ?_ | refine g_then ?_ | refine g_nil ?_ | refine g_region ?_ | refine g_seq ?_ | refine g_box rfl fun _ _ => ?_)
  rename_i p2 _
  refine g_callE (val := fun b : Bool => .bool b) (E := fun _ => []) (φ := fun b => b = false → light u) rfl (fun w hw => heavy_c u _ _ w (hf0.keep keeps_func hw.chg) ⟨_, _, _, rfl⟩) fun b hb => ?_
  simp only [List.nil_append]
  cases b
  case true =>
    repeat (first | refine g_then ?_ | refine g_nil ?_ | refine g_region ?_ | refine g_seq ?_ | refine g_opS rfl ?_ | refine g_condT ?_ | refine g_ret ?_ | refine g_thenRet ?_)
    exact g_retV rfl rfl
  have hl := hb rfl
  repeat (first | refine g_op rfl ?_ | refine g_then ?_ | refine g_nil ?_ | refine g_region ?_ | refine g_seq ?_ | refine g_skip ?_ | refine g_condF ?_)
  by_cases hbad : (askedL u k).1 ≠ 0
  · refine g_callV rfl (fun w hw => tree_bad u hl k hk hbad _ _ w (hg0.keep keeps_global hw.chg) (hf0.keep keeps_func hw.chg) (hways.keep hw.chg)) ?_
    repeat (first | refine g_op rfl ?_ | refine g_then ?_ | refine g_nil ?_ | refine g_region ?_ | refine g_seq ?_ | refine g_alloc rfl fun _ _ => ?_ | refine g_storeAgg ?_)
    refine g_callV rfl (fun w hw => asked_c u hl k _ _ w (hg0.keep keeps_global hw.chg) (hf0.keep keeps_func hw.chg) (hways.keep hw.chg)) ?_
    repeat (first | refine g_op rfl ?_ | refine g_then ?_ | refine g_nil ?_ | refine g_region ?_ | refine g_seq ?_ | refine g_alloc rfl fun _ _ => ?_ | refine g_storeAgg ?_)
    refine g_cond (fun h1 => ?_) (fun h1 => ?_)
    · repeat (first | refine g_op rfl ?_ | refine g_region ?_ | refine g_seq ?_)
      rw [show (decide ((askedL u k).1 = (askedL u k).1) && decide ((askedL u k).2 = (askedL u k).2)) = true by simp]
      repeat (first | refine g_op rfl ?_ | refine g_then ?_ | refine g_nil ?_ | refine g_opS rfl ?_ | refine g_open ?_ | refine g_ret ?_ | refine g_thenRet ?_)
      exact g_retV rfl rfl
    · exact absurd h1 (by simp [hbad])
  have hgood : (askedL u k).1 = 0 := by simpa using hbad
  obtain ⟨hch, has, i, X, rfl, hX, hok⟩ := asked_ok hgood
  have hpos := check_pos hch hX
  have hil : i < fn := by rw [hfn]; exact (List.getElem?_eq_some_iff.1 hX).1
  have had : AddrIs fa fb fo := ⟨hfa (ne_of_get hX)⟩
  have hli : LtIs i fn := ⟨hil⟩
  obtain ⟨cs, hcs, bv, rfl, hpi, hri, hbv⟩ := hfel i X hX
  have hci : CellsIs w0 fb (fo + i * 4) _ := ⟨hcs⟩
  have hbv0 := hbv
  obtain ⟨ba, bn, bc, _, _, rfl, hbn, _⟩ := hbv
  have h24 := (hl.2 X (List.mem_of_getElem? hX)).1
  have hin := treeL_in (bl := X.blocks) hok hpos (by omega)
  refine g_callE (val := fun x : Option Addr × Nat × (Nat → Prop) => .tuple #[.slice x.1 X.blocks.length x.2.1, .agg #[.int .i64 0, .int .i64 0]]) (E := fun x => [⟨x.2.2, fun w => SlAt w (.slice x.1 X.blocks.length x.2.1) 1 (treeL X.blocks) IntV⟩]) (φ := fun _ => True) rfl (fun w hw =>
    (tree_ok u hl i hgood X hX hok hpos hch _ _ w (hg0.keep keeps_global hw.chg) (hf0.keep keeps_func hw.chg) (hways.keep hw.chg)).mono fun v w' ⟨x, h1, h2, _⟩ => ⟨(x.1, x.2, _), h1, Wd.ints h2 (by simp [treeL]) (by omega) hin, trivial⟩) fun x _ => ?_
  obtain ⟨ra, rc, rp⟩ := x
  simp only [List.cons_append, List.nil_append]
  repeat (first | refine g_op rfl ?_ | refine g_then ?_ | refine g_nil ?_ | refine g_region ?_ | refine g_seq ?_ | refine g_alloc rfl fun _ _ => ?_ | refine g_storeAgg ?_)
  rename_i p6 _
  refine g_callV rfl (fun w hw => asked_c u hl i _ _ w (hg0.keep keeps_global hw.chg) (hf0.keep keeps_func hw.chg) (hways.keep hw.chg)) ?_
  rw [has]
  repeat (first | refine g_op rfl ?_ | refine g_then ?_ | refine g_nil ?_ | refine g_region ?_ | refine g_seq ?_ | refine g_open ?_ | refine g_alloc rfl fun _ _ => ?_ | refine g_storeAgg ?_ | refine g_skip ?_ | refine g_condF ?_)
  rename_i p7 _
  refine g_callE (val := fun x : Option Addr × Nat × (Nat → Prop) => .slice x.1 X.blocks.length x.2.1) (E := fun x => [⟨x.2.2, fun w => SlAt w (.slice x.1 X.blocks.length x.2.1) 1 (treeL X.blocks) IntV⟩]) (φ := fun _ => True) rfl (fun w hw =>
    (refTree_c _ _ _ X.blocks _ ⟨_, _, _, rfl⟩ w (hbv0.keep keeps_block hw.chg) (by omega) hok hpos).mono fun v w' ⟨x, h1, h2, _⟩ => ⟨(x.1, x.2, _), h1, Wd.ints h2 (by simp [treeL]) (by omega) hin, trivial⟩) fun y _ => ?_
  obtain ⟨sa, sc, sp⟩ := y
  simp only [List.cons_append, List.nil_append]
  refine g_open ?_
  refine g_callV rfl (fun w hw => ints_c _ _ (treeL X.blocks) (treeL X.blocks) w ?_ ?_) ?_
  · exact hw.get (k := 3) rfl
  · exact hw.get (k := 0) rfl
  rw [show decide (treeL X.blocks = treeL X.blocks) = true by simp]
  try simp only [decide_true, Bool.and_self]
  repeat (first | refine g_op rfl ?_ | refine g_then ?_ | refine g_nil ?_ | refine g_opS rfl ?_ | refine g_ret ?_)
  exact g_retV rfl rfl
end Go.Proofs.YtebajiafdkokjaaDoor
