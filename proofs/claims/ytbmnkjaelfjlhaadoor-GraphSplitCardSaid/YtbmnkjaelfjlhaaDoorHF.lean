/- Texts joined: Fit RunJ Vis RunK. -/
import Derived.Test.YtbmnkjaelfjlhaaDoorGD
import Derived.Test.YtbmnkjaelfjlhaaDoorGF
import Derived.Test.YtbmnkjaelfjlhaaDoorGG
import Derived.Test.YtbmnkjaelfjlhaaDoorHE
/- A unit that passes the check fits. No program in sight. -/
namespace Go.Proofs.YtbmnkjaelfjlhaaDoor
open Go Go.RowKit

theorem lens_of {X : LFunc} (h : lightF X) : ∀ B ∈ X.blocks, B.list.length ≤ 1000 ∧ B.phis.length ≤ 1000 := fun B hB => by
  have h1 : ((B.phis.length + B.list.length : Nat) : Int) ≤ sizeOfBs X.blocks := by
    unfold sizeOfBs
    generalize X.blocks = l at hB
    induction l with
    | nil => cases hB
    | cons C l ih =>
      have hnn : ∀ m : List LBlock, 0 ≤ (m.map fun b => ((b.phis.length + b.list.length : Nat) : Int)).sum := fun m => by
        induction m with
        | nil => simp
        | cons D m ih => simp only [List.map_cons, List.sum_cons]; omega
      simp only [List.map_cons, List.sum_cons]
      rcases List.mem_cons.1 hB with rfl | hB
      · have := hnn l; omega
      · have := ih hB; omega
  have := h.2
  omega
/-- the numbers of a unit are machine numbers -/
structure BlkNums (B : LBlock) : Prop where
  on : inI B.on.n
  phis : ∀ q ∈ B.phis, ∀ v ∈ q.src, inI v.n
  list : ∀ x ∈ B.list, inI x.dst ∧ inI x.a.n ∧ inI x.b.n ∧ ∀ v ∈ x.args, inI v.n
theorem SlAt.el {α : Type} {w : World} {v : Value} {s : Nat} {l : List α} {V : World → α → List Value → Prop} (h : SlAt w v s l V) {x : α} (hx : x ∈ l) : ∃ cs, V w x cs := by
  obtain ⟨_, _, _, _, _, _, _, _, _, _, _, hel⟩ := h
  obtain ⟨i, hi⟩ := List.getElem?_of_mem hx
  obtain ⟨cs, _, hV⟩ := hel i x hi
  exact ⟨cs, hV⟩
theorem nums_of {w : World} {fs : Value} {fl : List LFunc} (h : SlAt w fs 4 fl FuncV) : ∀ X ∈ fl, ∀ B ∈ X.blocks, BlkNums B := fun X hX B hB => by
  obtain ⟨_, bv, _, _, _, hbv⟩ := h.el hX
  obtain ⟨_, pv, lv, tv, _, _, hon, hpv, hlv, _⟩ := hbv.el hB
  refine ⟨hon, fun q hq v hv => ?_, fun x hx => ?_⟩
  · obtain ⟨_, sv, _, _, hsv⟩ := hpv.el hq
    obtain ⟨_, _, h9⟩ := hsv.el hv
    exact h9
  · obtain ⟨_, av, _, _, h1, h2, h3, _, hav⟩ := hlv.el hx
    exact ⟨h1, h2, h3, fun v hv => by obtain ⟨_, _, h9⟩ := hav.el hv; exact h9⟩
theorem gnums_of {w : World} {g : Value} {gl : List LGlobal} (h : SlAt w g 3 gl GlobalV) : ∀ G ∈ gl, ∀ x ∈ G.init, inI x := fun G hG x hx => by
  obtain ⟨_, iv, _, _, hiv⟩ := h.el hG
  obtain ⟨_, _, h9⟩ := hiv.el hx
  exact h9
theorem ins_fit {u : LUnit} {R : Nat} {x : LIns} (hp : ∀ X ∈ u.funcs, X.params ≤ 100) (h : insErr u.funcs R x = 0) (hn : inI x.dst ∧ inI x.a.n ∧ inI x.b.n ∧ ∀ v ∈ x.args, inI v.n) : InsFit u R x := by
  have hok := insErr_ok h
  unfold insErr at h
  split at h
  · cases h
  split at h
  · cases h
  split at h
  · rename_i h3
    simp only [Bool.and_eq_true, Bool.not_eq_true', decide_eq_false_iff_not] at h3
    exact absurd h h3.2
  split at h
  · rename_i h4; exact absurd h h4
  rename_i h4
  split at h
  · rename_i h5; exact absurd h h5
  rename_i h5
  simp only [ne_eq, Decidable.not_not] at h4 h5
  have hcall : x.op = 20 → (∃ (k : Nat) (Y : LFunc), x.fn = k ∧ u.funcs[k]? = some Y ∧ (x.args.length : Int) = Y.params) ∧ ∀ v ∈ x.args, ValOk R v := fun e => by
    unfold callErr at h
    rw [if_neg (by simpa using e)] at h
    split at h
    · cases h
    rename_i h6
    split at h
    · cases h
    rename_i h7
    simp only [within, Bool.not_eq_true', Bool.and_eq_false_iff, decide_eq_false_iff_not, not_or, Decidable.not_not] at h6
    have hlt : x.fn.toNat < u.funcs.length := by omega
    simp only [at0, List.getElem?_eq_getElem hlt, ne_eq, Decidable.not_not] at h7
    exact ⟨⟨x.fn.toNat, u.funcs[x.fn.toNat], by omega, List.getElem?_eq_getElem hlt, h7⟩, fun v hv => valErr_ok (at0_all h v hv)⟩
  refine ⟨hok.op, valErr_ok h4, valErr_ok h5, hok.dst, fun v hv => ?_, ?_, fun e => (hcall e).1, hn⟩
  · by_cases e : x.op = 20
    · exact (hcall e).2 v hv
    · rw [hok.args e] at hv; cases hv
  · by_cases e : x.op = 20
    · obtain ⟨k, Y, _, hY, h9⟩ := (hcall e).1
      have := hp Y (List.mem_of_getElem? hY)
      omega
    · rw [hok.args e]; simp
theorem end_fit {n R : Nat} {b : LBlock} (h : endErr n R b = 0) : (b.kind = 1 ∨ b.kind = 2 ∨ b.kind = 3) ∧ (b.to.length : Int) = b.kind - 1 := by
  unfold endErr endE at h
  split at h
  · cases h
  rename_i h1
  split at h
  · cases h
  rename_i h2
  simp only [within, Bool.not_eq_true', Bool.and_eq_false_iff, decide_eq_false_iff_not, not_or, Decidable.not_not] at h1
  simp only [ne_eq, Decidable.not_not] at h2
  exact ⟨by omega, h2⟩
theorem unit_fit {u : LUnit} (hl : light u) (h : (checkL u).1 = 0) (hn : ∀ X ∈ u.funcs, ∀ B ∈ X.blocks, BlkNums B) : UnitFit u := by
  have hlen := hl.1
  refine ⟨by omega, fun k X hX => ?_⟩
  have hXm := List.mem_of_getElem? hX
  have hp : ∀ X ∈ u.funcs, X.params ≤ 100 := fun Y hY => by
    obtain ⟨j, hj⟩ := List.getElem?_of_mem hY
    have := check_head h hj
    omega
  have hh := check_head h hX
  have hbe := check_bodies h X hXm
  have hlens := lens_of (hl.2 X hXm)
  have hR : X.regs = (X.regs.toNat : Nat) := by omega
  have hfo := func_okF hR hbe
  have hb24 := (hl.2 X hXm).1
  refine ⟨X.regs.toNat, hR, by omega, hfo, check_pos h hX, by omega, ⟨hh.1, by omega⟩, fun B hB => ?_⟩
  obtain ⟨b, hb⟩ := List.getElem?_of_mem hB
  have hBok := hfo.block b B hb
  have hnB := hn X hXm B hB
  unfold bodyErr at hbe
  split at hbe
  · rename_i h1; exact absurd hbe h1
  rename_i h1
  have hend := at0_all (by simpa using h1 : (firstI (at0 X.blocks (endErr X.blocks.length X.regs)) X.blocks.length).1 = 0) B hB
  have hbb := firstI_zero hbe b (List.getElem?_eq_some_iff.1 hb).1
  simp only [blockErr, hb] at hbb
  split at hbb
  · rename_i h2; exact absurd hbb h2
  have hins := at0_all hbb
  rw [hR] at hend hins
  exact ⟨end_fit hend, ⟨hBok.on, hnB.on⟩, ⟨(hlens B hB).1, fun x hx => ins_fit hp (hins x hx) (hnB.list x hx)⟩, ⟨(hlens B hB).2, hnB.phis⟩⟩
theorem check_start {u : LUnit} (h : (checkL u).1 = 0) (hn : ∀ G ∈ u.globals, ∀ x ∈ G.init, inI x) : StartOk u := by
  unfold checkL at h
  split at h
  · cases h
  rename_i h1
  split at h
  · rename_i h2; exact absurd h h2
  rename_i h2
  split at h
  · rename_i h3; exact absurd h h3
  split at h
  · rename_i h3; exact absurd h h3
  split at h
  · cases h
  rename_i h4
  refine ⟨by omega, fun G hG => ?_, hn, by omega, ?_⟩
  · have hz := firstI_zero (by simpa using h2)
    obtain ⟨j, hj⟩ := List.getElem?_of_mem hG
    have := hz j (List.getElem?_eq_some_iff.1 hj).1
    simp only [globAt, at0, hj, globErr] at this
    split at this
    · cases this
    split at this
    · cases this
    split at this
    · cases this
    rename_i h5
    split at this
    · cases this
    rename_i h6
    simp only [within, Bool.not_eq_true', Bool.and_eq_false_iff, decide_eq_false_iff_not, not_or, Decidable.not_not] at h5
    omega
  · unfold mainAt at h4 ⊢
    cases hf : u.funcs.findIdx? isMain with
    | none => rw [hf] at h4; simp at h4
    | some i =>
      have hi := (List.findIdx?_eq_some_iff_getElem.1 hf).1
      exact ⟨i, u.funcs[i], rfl, List.getElem?_eq_getElem hi⟩
end Go.Proofs.YtbmnkjaelfjlhaaDoor


/- run.Counts that is given what it does not take. -/
namespace Go.Proofs.YtbmnkjaelfjlhaaDoor
open Go Go.RowKit
attribute [local irreducible] wpListIn Code.wpIn Exit.then Exit.inBlock bodyPost wpQuiet wpAnyIn wpAnyH bodyPostM oneH
set_option maxHeartbeats 8000000

/-- the fault of a run -/
def countsE (u : LUnit) (n : Nat) (fuel : Int) : Int × Int := if (checkL u).1 ≠ 0 then checkL u else if 30 < n then (2, -1) else if !within fuel 0 100000 then (3, -1) else (0, 0)
theorem counts_bad (u : LUnit) (hl : light u) (g fs iv : Value) (inp : List Int) (fuel : Int) (hbad : (countsE u inp.length fuel).1 ≠ 0) (w0 : World) (hg : SlAt w0 g 3 u.globals GlobalV) (hf : SlAt w0 fs 4 u.funcs FuncV) (hin : SlAt w0 iv 1 inp IntV) (hways : CellsAt w0 0 0 waysC) :
    RetV Tryd.prog 25 [.agg #[g, fs], iv, .int .i64 fuel] w0 (.tuple #[.slice none 0 0, .agg #[.int .i64 0, .int .i64 0, .slice none 0 0, .int .i64 0], .agg #[.int .i64 (countsE u inp.length fuel).1, .int .i64 (countsE u inp.length fuel).2]]) := by
  have hg0 := hg
  have hf0 := hf
  obtain ⟨ga, gn, gc, gb, go, rfl, _⟩ := hg
  obtain ⟨fa, fn, fc, fb, fo, rfl, _⟩ := hf
  obtain ⟨ia, il, ic, ib, io, rfl, hil, _⟩ := hin
  refine ret_enter Tryd.func25 rfl Tryd.ntmps25 rfl (Wd.nil NoS w0) ?_
  repeat (first | refine g_op rfl ?_ | refine g_then ?_ | refine g_nil ?_ | refine g_region ?_ | refine g_seq ?_ | refine g_box rfl fun _ _ => ?_ | refine g_alloc rfl fun _ _ => ?_)
  refine g_callV rfl (fun w hw => check_c u hl _ _ w (hg0.keep keeps_global hw.chg) (hf0.keep keeps_func hw.chg) (hways.keep hw.chg)) ?_
  repeat (first | refine g_op rfl ?_ | refine g_then ?_ | refine g_nil ?_ | refine g_region ?_ | refine g_seq ?_ | refine g_alloc rfl fun _ _ => ?_ | refine g_storeAgg ?_)
  rename_i p3 _ p7 _ p8 _ p9 _
  refine g_cond (fun h1 => ?_) (fun h1 => ?_)
  · have hne : (checkL u).1 ≠ 0 := by
      intro h0
      rw [checkL_zero h0] at h1
      simp at h1
    rw [show countsE u inp.length fuel = checkL u by unfold countsE; rw [if_pos hne]]
    repeat (refine g_seq ?_)
    refine g_fix (L' := [(7, .pointer (some ⟨p7, 0, none⟩)), (8, .pointer (some ⟨p8, 0, none⟩)), (9, .pointer (some ⟨p9, 0, none⟩))]) (by repeat (first | exact trivial | refine ⟨rfl, ?_⟩)) (List.Sublist.refl _) ?_
    refine g_drawX [Ent.box p9 [.int .i64 (checkL u).1, .int .i64 (checkL u).2] 28] (fun _ : Unit => True) (fun _ => [(6, .slice none 0 0), (7, .pointer (some ⟨p7, 0, none⟩)), (8, .pointer (some ⟨p8, 0, none⟩))]) (fun _ => [Ent.box p9 [.int .i64 (checkL u).1, .int .i64 (checkL u).2] 28, Ent.box p8 [.int .i64 (checkL u).1, .int .i64 (checkL u).2] 28, Ent.box p7 [.int .i64 0, .int .i64 0, .slice none 0 0, .int .i64 0] 52]) mixed (List.Sublist.cons_cons _ (List.nil_sublist _)) ?_ fun _ _ => ?_
    · skip
      refine h_take 0 rfl (by decide +kernel) (List.Sublist.cons_cons _ (List.nil_sublist _)) ?_
      refine h_take 1 rfl (by decide +kernel) (List.Sublist.cons_cons _ (List.nil_sublist _)) ?_
      refine h_take 2 rfl (by decide +kernel) (List.Sublist.cons_cons _ (List.nil_sublist _)) ?_
      refine h_storeAgg 3 (by decide +kernel) (List.Sublist.cons_cons _ (List.nil_sublist _)) ?_
      refine h_storeAgg 4 (by decide +kernel) (List.Sublist.cons_cons _ (List.nil_sublist _)) ?_
      refine h_end (by decide +kernel) ?_
      exact g_mem () trivial (by repeat (first | exact trivial | refine ⟨rfl, ?_⟩)) (by simp)
    repeat (first | refine g_then ?_ | refine g_ret ?_ | refine g_thenRet ?_)
    exact g_retTCC rfl fun w' hw' => ⟨rfl, hw'.chg⟩
  have h1' : ¬ (checkL u).1 ≠ 0 := by simp at h1; omega
  repeat (first | refine g_op rfl ?_ | refine g_then ?_ | refine g_nil ?_ | refine g_region ?_ | refine g_seq ?_ | refine g_skip ?_)
  refine g_cond (fun h2 => ?_) (fun h2 => ?_)
  · have h2' : 30 < inp.length := by simp at h2; omega
    rw [show countsE u inp.length fuel = (2, -1) by unfold countsE; rw [if_neg h1', if_pos h2']]
    repeat (first | refine g_op rfl ?_ | refine g_region ?_ | refine g_seq ?_)
    refine g_callV rfl (fun w _ => fault_c _ _ w) ?_
    repeat (first | refine g_then ?_ | refine g_nil ?_ | refine g_opS rfl ?_ | refine g_storeAgg ?_ | refine g_ret ?_ | refine g_thenRet ?_)
    exact g_retTCC rfl fun w' hw' => ⟨rfl, hw'.chg⟩
  have h2' : ¬ 30 < inp.length := by simp at h2; omega
  repeat (first | refine g_op rfl ?_ | refine g_then ?_ | refine g_region ?_ | refine g_seq ?_ | refine g_skip ?_)
  refine g_callV rfl (fun w _ => within_c _ _ _ w) ?_
  repeat (first | refine g_op rfl ?_ | refine g_then ?_ | refine g_nil ?_)
  refine g_cond (fun h3 => ?_) (fun h3 => ?_)
  · rw [show countsE u inp.length fuel = (3, -1) by unfold countsE; rw [if_neg h1', if_neg h2', if_pos (by simpa using h3)]]
    repeat (first | refine g_op rfl ?_ | refine g_region ?_ | refine g_seq ?_)
    refine g_callV rfl (fun w _ => fault_c _ _ w) ?_
    repeat (first | refine g_then ?_ | refine g_nil ?_ | refine g_opS rfl ?_ | refine g_storeAgg ?_ | refine g_ret ?_ | refine g_thenRet ?_)
    exact g_retTCC rfl fun w' hw' => ⟨rfl, hw'.chg⟩
  · exact absurd (by unfold countsE; rw [if_neg h1', if_neg h2', if_neg (by simpa using h3)]) hbad
end Go.Proofs.YtbmnkjaelfjlhaaDoor


/- The blocks that a run comes to: each at the end of a path over such blocks. No program in sight. -/
namespace Go.Proofs.YtbmnkjaelfjlhaaDoor
open Go Go.RowKit

/-- a path from block 0 over blocks that were come to -/
inductive VP (bl : List LBlock) (l : List Nat) : Nat → Prop
  | zero : 0 < l.getD 0 0 → VP bl l 0
  | step {x y : Nat} : VP bl l x → Edge bl x y → 0 < l.getD y 0 → VP bl l y
theorem VP.mono {bl : List LBlock} {l l' : List Nat} (h : ∀ b, 0 < l.getD b 0 → 0 < l'.getD b 0) {b : Nat} (hp : VP bl l b) : VP bl l' b := by
  induction hp with
  | zero h0 => exact .zero (h _ h0)
  | step _ he hy ih => exact .step ih he (h _ hy)
theorem VP.rch {bl : List LBlock} {l : List Nat} {b : Nat} {wo : Int} (hp : VP bl l b) (h : ∀ d : Nat, (d : Int) = wo → l.getD d 0 = 0) : Rch bl wo 0 b := by
  induction hp with
  | zero _ => exact .refl
  | step _ he hy ih => exact .step ih he fun e => by have := h _ e; omega
/-- what is over a block that was come to was come to -/
theorem VP.dom {bl : List LBlock} {l : List Nat} {b d : Nat} (hp : VP bl l b) (hb : 0 < l.getD b 0) (hd : Dom bl d b) : 0 < l.getD d 0 := by
  rcases Nat.eq_zero_or_pos (l.getD d 0) with h0 | h0
  · rcases hd.2.2 with rfl | rfl | h
    · omega
    · have : ∀ {b}, VP bl l b → 0 < l.getD 0 0 := fun {b} hp => by
        induction hp with
        | zero h => exact h
        | step _ _ _ ih => exact ih
      exact this hp
    · exact absurd (hp.rch fun e he => by rw [show e = d by omega]; exact h0) h
  · exact h0
/-- the blocks of each function -/
def VisOk (u : LUnit) (cs : List (List Nat)) : Prop := ∀ (k : Nat) (X : LFunc) (l : List Nat), u.funcs[k]? = some X → cs[k]? = some l → ∀ b, 0 < l.getD b 0 → VP X.blocks l b
def Here (cs : List (List Nat)) (f : Frm) : Prop := ∃ l, cs[f.fn]? = some l ∧ 0 < l.getD f.block 0
theorem bump_row {cs : List (List Nat)} {k b : Nat} (j : Nat) : (bump cs k b)[j]? = if k = j then (cs[j]?).map fun l => l.modify b (· + 1) else cs[j]? := by
  unfold bump
  rw [List.getElem?_modify]
  by_cases e : k = j
  · simp only [e, if_true]; rfl
  · simp only [e, if_false, id_map']
theorem modify_getD (l : List Nat) (b c : Nat) : (l.modify b (· + 1)).getD c 0 = if b = c ∧ c < l.length then l.getD c 0 + 1 else l.getD c 0 := by
  rw [List.getD_eq_getElem?_getD, List.getD_eq_getElem?_getD, List.getElem?_modify]
  by_cases hc : c < l.length
  · rw [List.getElem?_eq_getElem hc]
    by_cases e : b = c
    · simp [e, hc]
    · simp [e]
  · rw [List.getElem?_eq_none (by omega)]
    simp [hc]
theorem modify_pos {l : List Nat} {b c : Nat} (h : 0 < l.getD c 0) : 0 < (l.modify b (· + 1)).getD c 0 := by
  rw [modify_getD]; split <;> omega
theorem Here.bump {cs : List (List Nat)} {f : Frm} (h : Here cs f) (k b : Nat) : Here (bump cs k b) f := by
  obtain ⟨l, h1, h2⟩ := h
  by_cases e : k = f.fn
  · exact ⟨_, by rw [bump_row, if_pos e, h1]; rfl, modify_pos h2⟩
  · exact ⟨l, by rw [bump_row, if_neg e, h1], h2⟩
theorem VisOk.bump {u : LUnit} {cs : List (List Nat)} (h : VisOk u cs) {k b : Nat} (hb : ∀ X l, u.funcs[k]? = some X → cs[k]? = some l → b = 0 ∨ ∃ x, VP X.blocks l x ∧ Edge X.blocks x b) : VisOk u (bump cs k b) := by
  intro j X l hX hl c hc
  rw [bump_row] at hl
  by_cases e : k = j
  · subst e
    rw [if_pos rfl] at hl
    obtain ⟨l0, h0, rfl⟩ := Option.map_eq_some_iff.1 hl
    have hm : ∀ c, 0 < l0.getD c 0 → 0 < (l0.modify b (· + 1)).getD c 0 := fun c hc => modify_pos hc
    by_cases h1 : 0 < l0.getD c 0
    · exact (h k X l0 hX h0 c h1).mono hm
    · have hbc : b = c := by
        rw [modify_getD] at hc
        split at hc
        · rename_i h2; exact h2.1
        · omega
      subst hbc
      rcases hb X l0 hX h0 with rfl | ⟨x, hx, he⟩
      · exact .zero hc
      · exact .step (hx.mono hm) he hc
  · rw [if_neg e] at hl
    exact h j X l hX hl c hc
structure VisMac (u : LUnit) (s : Mac) : Prop where
  vis : VisOk u s.counts
  top : Here s.counts s.top
  rest : ∀ f ∈ s.rest, Here s.counts f
def CntOk (u : LUnit) (c : Nat) (cs : List (List Nat)) : Prop := cs.length = u.funcs.length ∧ ∀ (k : Nat) (X : LFunc), u.funcs[k]? = some X → ∃ l, cs[k]? = some l ∧ l.length = X.blocks.length ∧ ∀ x ∈ l, x ≤ c
theorem CntOk.mono {u : LUnit} {c d : Nat} {cs : List (List Nat)} (h : CntOk u c cs) (hcd : c ≤ d) : CntOk u d cs := ⟨h.1, fun k X hX => by
  obtain ⟨l, h1, h2, h3⟩ := h.2 k X hX
  exact ⟨l, h1, h2, fun x hx => Nat.le_trans (h3 x hx) hcd⟩⟩
end Go.Proofs.YtbmnkjaelfjlhaaDoor


/- What a run's counts are, as a table that is known. -/
namespace Go.Proofs.YtbmnkjaelfjlhaaDoor
open Go Go.RowKit
set_option maxHeartbeats 2000000

theorem countsE_zero {u : LUnit} {n : Nat} {fuel : Int} (h : (countsE u n fuel).1 = 0) : (checkL u).1 = 0 ∧ n ≤ 30 ∧ ∃ k : Nat, fuel = k ∧ k ≤ 100000 := by
  unfold countsE at h
  split at h
  · rename_i h1; exact absurd h h1
  rename_i h1
  split at h
  · cases h
  split at h
  · cases h
  rename_i h3
  simp only [within, Bool.not_eq_true', Bool.and_eq_false_iff, decide_eq_false_iff_not, not_or, Decidable.not_not] at h3
  exact ⟨by simpa using h1, by omega, fuel.toNat, by omega, by omega⟩
/-- what is so of what a run counts -/
structure CountsOk (u : LUnit) (cs : List (List Nat)) : Prop where
  cnt : CntOk u 100001 cs
  vis : VisOk u cs
end Go.Proofs.YtbmnkjaelfjlhaaDoor

