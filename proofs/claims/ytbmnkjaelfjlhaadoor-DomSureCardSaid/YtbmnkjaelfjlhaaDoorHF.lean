/- Texts joined: Fit RunJ Vis RunK. -/
import Derived.Test.YtbmnkjaelfjlhaaDoorGD
import Derived.Test.YtbmnkjaelfjlhaaDoorGF
import Derived.Test.YtbmnkjaelfjlhaaDoorGG
import Derived.Test.YtbmnkjaelfjlhaaDoorHE
/- A unit that passes the check fits. No program in sight. -/
namespace Go.Proofs.YtbmnkjaelfjlhaaDoor
open Go Go.RowKit

theorem lens_of {X : LFunc} (h : lightF X) : ∀ B ∈ X.blocks, B.list.length ≤ 1000 ∧ B.phis.length ≤ 1000 := fun B hB => by
  have h1 : ((B.phis.length + B.list.length : Nat) : Int) ≤ sizeOfBs X.blocks := by
    unfold sizeOfBs
    generalize X.blocks = l at hB
    induction l with
    | nil => cases hB
    | cons C l ih =>
      have hnn : ∀ m : List LBlock, 0 ≤ (m.map fun b => ((b.phis.length + b.list.length : Nat) : Int)).sum := fun m => by
        induction m with
        | nil => simp
        | cons D m ih => simp only [List.map_cons, List.sum_cons]; omega
      simp only [List.map_cons, List.sum_cons]
      rcases List.mem_cons.1 hB with rfl | hB
      · have := hnn l; omega
      · have := ih hB; omega
  have := h.2
  omega
/-- the numbers of a unit are machine numbers -/
structure BlkNums (B : LBlock) : Prop where
  on : inI B.on.n
  phis : ∀ q ∈ B.phis, ∀ v ∈ q.src, inI v.n
  list : ∀ x ∈ B.list, inI x.dst ∧ inI x.a.n ∧ inI x.b.n ∧ ∀ v ∈ x.args, inI v.n
theorem SlAt.el {α : Type} {w : World} {v : Value} {s : Nat} {l : List α} {V : World → α → List Value → Prop} (h : SlAt w v s l V) {x : α} (hx : x ∈ l) : ∃ cs, V w x cs := by
  obtain ⟨_, _, _, _, _, _, _, _, _, _, _, hel⟩ := h
  obtain ⟨i, hi⟩ := List.getElem?_of_mem hx
  obtain ⟨cs, _, hV⟩ := hel i x hi
  exact ⟨cs, hV⟩
theorem nums_of {w : World} {fs : Value} {fl : List LFunc} (h : SlAt w fs 4 fl FuncV) : ∀ X ∈ fl, ∀ B ∈ X.blocks, BlkNums B := fun X hX B hB => by
  obtain ⟨_, bv, _, _, _, hbv⟩ := h.el hX
  obtain ⟨_, pv, lv, tv, _, _, hon, hpv, hlv, _⟩ := hbv.el hB
  refine ⟨hon, fun q hq v hv => ?_, fun x hx => ?_⟩
  · obtain ⟨_, sv, _, _, hsv⟩ := hpv.el hq
    obtain ⟨_, _, h9⟩ := hsv.el hv
    exact h9
  · obtain ⟨_, av, _, _, h1, h2, h3, _, hav⟩ := hlv.el hx
    exact ⟨h1, h2, h3, fun v hv => by obtain ⟨_, _, h9⟩ := hav.el hv; exact h9⟩
theorem gnums_of {w : World} {g : Value} {gl : List LGlobal} (h : SlAt w g 3 gl GlobalV) : ∀ G ∈ gl, ∀ x ∈ G.init, inI x := fun G hG x hx => by
  obtain ⟨_, iv, _, _, hiv⟩ := h.el hG
  obtain ⟨_, _, h9⟩ := hiv.el hx
  exact h9
theorem ins_fit {u : LUnit} {R : Nat} {x : LIns} (hp : ∀ X ∈ u.funcs, X.params ≤ 100) (h : insErr u.funcs R x = 0) (hn : inI x.dst ∧ inI x.a.n ∧ inI x.b.n ∧ ∀ v ∈ x.args, inI v.n) : InsFit u R x := by
  have hok := insErr_ok h
  unfold insErr at h
  split at h
  · cases h
  split at h
  · cases h
  split at h
  · rename_i h3
    simp only [Bool.and_eq_true, Bool.not_eq_true', decide_eq_false_iff_not] at h3
    exact absurd h h3.2
  split at h
  · rename_i h4; exact absurd h h4
  rename_i h4
  split at h
  · rename_i h5; exact absurd h h5
  rename_i h5
  simp only [ne_eq, Decidable.not_not] at h4 h5
  have hcall : x.op = 20 → (∃ (k : Nat) (Y : LFunc), x.fn = k ∧ u.funcs[k]? = some Y ∧ (x.args.length : Int) = Y.params) ∧ ∀ v ∈ x.args, ValOk R v := fun e => by
    unfold callErr at h
    rw [if_neg (by simpa using e)] at h
    split at h
    · cases h
    rename_i h6
    split at h
    · cases h
    rename_i h7
    simp only [within, Bool.not_eq_true', Bool.and_eq_false_iff, decide_eq_false_iff_not, not_or, Decidable.not_not] at h6
    have hlt : x.fn.toNat < u.funcs.length := by omega
    simp only [at0, List.getElem?_eq_getElem hlt, ne_eq, Decidable.not_not] at h7
    exact ⟨⟨x.fn.toNat, u.funcs[x.fn.toNat], by omega, List.getElem?_eq_getElem hlt, h7⟩, fun v hv => valErr_ok (at0_all h v hv)⟩
  refine ⟨hok.op, valErr_ok h4, valErr_ok h5, hok.dst, fun v hv => ?_, ?_, fun e => (hcall e).1, hn⟩
  · by_cases e : x.op = 20
    · exact (hcall e).2 v hv
    · rw [hok.args e] at hv; cases hv
  · by_cases e : x.op = 20
    · obtain ⟨k, Y, _, hY, h9⟩ := (hcall e).1
      have := hp Y (List.mem_of_getElem? hY)
      omega
    · rw [hok.args e]; simp
theorem end_fit {n R : Nat} {b : LBlock} (h : endErr n R b = 0) : (b.kind = 1 ∨ b.kind = 2 ∨ b.kind = 3) ∧ (b.to.length : Int) = b.kind - 1 := by
  unfold endErr endE at h
  split at h
  · cases h
  rename_i h1
  split at h
  · cases h
  rename_i h2
  simp only [within, Bool.not_eq_true', Bool.and_eq_false_iff, decide_eq_false_iff_not, not_or, Decidable.not_not] at h1
  simp only [ne_eq, Decidable.not_not] at h2
  exact ⟨by omega, h2⟩
theorem unit_fit {u : LUnit} (hl : light u) (h : (checkL u).1 = 0) (hn : ∀ X ∈ u.funcs, ∀ B ∈ X.blocks, BlkNums B) : UnitFit u := by
  have hlen := hl.1
  refine ⟨by omega, fun k X hX => ?_⟩
  have hXm := List.mem_of_getElem? hX
  have hp : ∀ X ∈ u.funcs, X.params ≤ 100 := fun Y hY => by
    obtain ⟨j, hj⟩ := List.getElem?_of_mem hY
    have := check_head h hj
    omega
  have hh := check_head h hX
  have hbe := check_bodies h X hXm
  have hlens := lens_of (hl.2 X hXm)
  have hR : X.regs = (X.regs.toNat : Nat) := by omega
  have hfo := func_okF hR hbe
  have hb24 := (hl.2 X hXm).1
  refine ⟨X.regs.toNat, hR, by omega, hfo, check_pos h hX, by omega, ⟨hh.1, by omega⟩, fun B hB => ?_⟩
  obtain ⟨b, hb⟩ := List.getElem?_of_mem hB
  have hBok := hfo.block b B hb
  have hnB := hn X hXm B hB
  unfold bodyErr at hbe
  split at hbe
  · rename_i h1; exact absurd hbe h1
  rename_i h1
  have hend := at0_all (by simpa using h1 : (firstI (at0 X.blocks (endErr X.blocks.length X.regs)) X.blocks.length).1 = 0) B hB
  have hbb := firstI_zero hbe b (List.getElem?_eq_some_iff.1 hb).1
  simp only [blockErr, hb] at hbb
  split at hbb
  · rename_i h2; exact absurd hbb h2
  have hins := at0_all hbb
  rw [hR] at hend hins
  exact ⟨end_fit hend, ⟨hBok.on, hnB.on⟩, ⟨(hlens B hB).1, fun x hx => ins_fit hp (hins x hx) (hnB.list x hx)⟩, ⟨(hlens B hB).2, hnB.phis⟩⟩
theorem check_start {u : LUnit} (h : (checkL u).1 = 0) (hn : ∀ G ∈ u.globals, ∀ x ∈ G.init, inI x) : StartOk u := by
  unfold checkL at h
  split at h
  · cases h
  rename_i h1
  split at h
  · rename_i h2; exact absurd h h2
  rename_i h2
  split at h
  · rename_i h3; exact absurd h h3
  split at h
  · rename_i h3; exact absurd h h3
  split at h
  · cases h
  rename_i h4
  refine ⟨by omega, fun G hG => ?_, hn, by omega, ?_⟩
  · have hz := firstI_zero (by simpa using h2)
    obtain ⟨j, hj⟩ := List.getElem?_of_mem hG
    have := hz j (List.getElem?_eq_some_iff.1 hj).1
    simp only [globAt, at0, hj, globErr] at this
    split at this
    · cases this
    split at this
    · cases this
    split at this
    · cases this
    rename_i h5
    split at this
    · cases this
    rename_i h6
    simp only [within, Bool.not_eq_true', Bool.and_eq_false_iff, decide_eq_false_iff_not, not_or, Decidable.not_not] at h5
    omega
  · unfold mainAt at h4 ⊢
    cases hf : u.funcs.findIdx? isMain with
    | none => rw [hf] at h4; simp at h4
    | some i =>
      have hi := (List.findIdx?_eq_some_iff_getElem.1 hf).1
      exact ⟨i, u.funcs[i], rfl, List.getElem?_eq_getElem hi⟩
end Go.Proofs.YtbmnkjaelfjlhaaDoor


/- run.Counts that is given what it does not take. -/
namespace Go.Proofs.YtbmnkjaelfjlhaaDoor
open Go Go.RowKit
attribute [local irreducible] wpListIn Code.wpIn Exit.then Exit.inBlock bodyPost wpQuiet wpAnyIn wpAnyH bodyPostM oneH
set_option maxHeartbeats 8000000

/-- the fault of a run -/
def countsE (u : LUnit) (n : Nat) (fuel : Int) : Int × Int := if (checkL u).1 ≠ 0 then checkL u else if 30 < n then (2, -1) else if !within fuel 0 100000 then (3, -1) else (0, 0)
theorem counts_bad (u : LUnit) (hl : light u) (g fs iv : Value) (inp : List Int) (fuel : Int) (hbad : (countsE u inp.length fuel).1 ≠ 0) (w0 : World) (hg : SlAt w0 g 3 u.globals GlobalV) (hf : SlAt w0 fs 4 u.funcs FuncV) (hin : SlAt w0 iv 1 inp IntV) (hways : CellsAt w0 0 0 waysC) :
    RetV Tryd.prog 25 [.agg #[g, fs], iv, .int .i64 fuel] w0 (.tuple #[.slice none 0 0, .agg #[.int .i64 0, .int .i64 0, .slice none 0 0, .int .i64 0], .agg #[.int .i64 (countsE u inp.length fuel).1, .int .i64 (countsE u inp.length fuel).2]]) := by
  have hg0 := hg
  have hf0 := hf
  obtain ⟨ga, gn, gc, gb, go, rfl, _⟩ := hg
  obtain ⟨fa, fn, fc, fb, fo, rfl, _⟩ := hf
  obtain ⟨ia, il, ic, ib, io, rfl, hil, _⟩ := hin
  refine ret_enter Tryd.func25 rfl Tryd.ntmps25 rfl (Wd.nil NoS w0) ?_
  repeat (first | refine g_op rfl ?_ | refine g_then ?_ | refine g_nil ?_ | refine g_region ?_ | refine g_seq ?_ | refine g_opS rfl ?_ | refine g_open ?_ | refine g_pass rfl ?_ | refine g_store ?_ | refine g_box rfl fun _ _ => ?_ | refine g_alloc rfl fun _ _ => ?_ | refine g_allocS rfl fun _ _ => ?_ | refine g_storeAgg ?_ | refine g_inBlock ?_ | refine g_block ?_ | refine g_skip ?_ | refine g_condT ?_ | refine g_condF ?_ | refine g_add rfl (by omega) (by omega) ?_ | refine g_sub rfl (by omega) (by omega) ?_ | refine g_exit ?_ | refine g_thenExit ?_ | refine g_exitHere ?_ | refine g_exitOn rfl ?_ | refine g_ret ?_ | refine g_thenRet ?_ | refine g_blockRet ?_ | refine g_passS rfl ?_ | refine g_pass0 ?_ | refine g_passU rfl ?_ | refine g_passUS rfl ?_ | refine g_storeV ?_ | refine g_build1 rfl rfl fun _ _ => ?_ | refine g_buildN rfl rfl fun _ _ => ?_ | refine g_make rfl (by omega) (by omega) fun _ _ => ?_)
  refine g_callV rfl (fun w hw => check_c u hl _ _ w (hg0.keep keeps_global hw.chg) (hf0.keep keeps_func hw.chg) (hways.keep hw.chg)) ?_
  repeat (first | refine g_op rfl ?_ | refine g_then ?_ | refine g_nil ?_ | refine g_region ?_ | refine g_seq ?_ | refine g_opS rfl ?_ | refine g_open ?_ | refine g_pass rfl ?_ | refine g_store ?_ | refine g_box rfl fun _ _ => ?_ | refine g_alloc rfl fun _ _ => ?_ | refine g_allocS rfl fun _ _ => ?_ | refine g_storeAgg ?_ | refine g_inBlock ?_ | refine g_block ?_ | refine g_skip ?_ | refine g_condT ?_ | refine g_condF ?_ | refine g_add rfl (by omega) (by omega) ?_ | refine g_sub rfl (by omega) (by omega) ?_ | refine g_exit ?_ | refine g_thenExit ?_ | refine g_exitHere ?_ | refine g_exitOn rfl ?_ | refine g_ret ?_ | refine g_thenRet ?_ | refine g_blockRet ?_ | refine g_passS rfl ?_ | refine g_pass0 ?_ | refine g_passU rfl ?_ | refine g_passUS rfl ?_ | refine g_storeV ?_ | refine g_build1 rfl rfl fun _ _ => ?_ | refine g_buildN rfl rfl fun _ _ => ?_ | refine g_make rfl (by omega) (by omega) fun _ _ => ?_)
  rename_i p3 _ p7 _ p8 _ p9 _
  refine g_cond (fun h1 => ?_) (fun h1 => ?_)
  · have hne : (checkL u).1 ≠ 0 := by
      intro h0
      rw [checkL_zero h0] at h1
      simp at h1
    rw [show countsE u inp.length fuel = checkL u by unfold countsE; rw [if_pos hne]]
    repeat (first | refine g_op rfl ?_ | refine g_then ?_ | refine g_nil ?_ | refine g_region ?_ | refine g_seq ?_ | refine g_opS rfl ?_ | refine g_open ?_ | refine g_pass rfl ?_ | refine g_store ?_ | refine g_box rfl fun _ _ => ?_ | refine g_alloc rfl fun _ _ => ?_ | refine g_allocS rfl fun _ _ => ?_ | refine g_storeAgg ?_ | refine g_inBlock ?_ | refine g_block ?_ | refine g_skip ?_ | refine g_condT ?_ | refine g_condF ?_ | refine g_add rfl (by omega) (by omega) ?_ | refine g_sub rfl (by omega) (by omega) ?_ | refine g_exit ?_ | refine g_thenExit ?_ | refine g_exitHere ?_ | refine g_exitOn rfl ?_ | refine g_ret ?_ | refine g_thenRet ?_ | refine g_blockRet ?_ | refine g_passS rfl ?_ | refine g_pass0 ?_ | refine g_passU rfl ?_ | refine g_passUS rfl ?_ | refine g_storeV ?_ | refine g_build1 rfl rfl fun _ _ => ?_ | refine g_buildN rfl rfl fun _ _ => ?_ | refine g_make rfl (by omega) (by omega) fun _ _ => ?_)
    refine g_fix (L' := [(7, .pointer (some ⟨p7, 0, none⟩)), (8, .pointer (some ⟨p8, 0, none⟩)), (9, .pointer (some ⟨p9, 0, none⟩))]) (by repeat (first | exact trivial | refine ⟨rfl, ?_⟩)) (List.Sublist.refl _) ?_
    refine g_drawX [Ent.box p9 [.int .i64 (checkL u).1, .int .i64 (checkL u).2] 28] (fun _ : Unit => True) (fun _ => [(6, .slice none 0 0), (7, .pointer (some ⟨p7, 0, none⟩)), (8, .pointer (some ⟨p8, 0, none⟩))]) (fun _ => [Ent.box p9 [.int .i64 (checkL u).1, .int .i64 (checkL u).2] 28, Ent.box p8 [.int .i64 (checkL u).1, .int .i64 (checkL u).2] 28, Ent.box p7 [.int .i64 0, .int .i64 0, .slice none 0 0, .int .i64 0] 52]) mixed (List.Sublist.cons_cons _ (List.nil_sublist _)) ?_ fun _ _ => ?_
    · skip
      (first | refine h_take 0 rfl (by decide +kernel) (List.Sublist.cons_cons _ (List.nil_sublist _)) ?_ | refine h_takeG 0 rfl (by decide +kernel) (List.Sublist.cons_cons _ (List.nil_sublist _)) ?_ | refine h_takeP 0 rfl (by decide +kernel) (List.Sublist.cons_cons _ (List.nil_sublist _)) ?_)
      (first | refine h_take 1 rfl (by decide +kernel) (List.Sublist.cons_cons _ (List.nil_sublist _)) ?_ | refine h_takeG 1 rfl (by decide +kernel) (List.Sublist.cons_cons _ (List.nil_sublist _)) ?_ | refine h_takeP 1 rfl (by decide +kernel) (List.Sublist.cons_cons _ (List.nil_sublist _)) ?_)
      (first | refine h_take 2 rfl (by decide +kernel) (List.Sublist.cons_cons _ (List.nil_sublist _)) ?_ | refine h_takeG 2 rfl (by decide +kernel) (List.Sublist.cons_cons _ (List.nil_sublist _)) ?_ | refine h_takeP 2 rfl (by decide +kernel) (List.Sublist.cons_cons _ (List.nil_sublist _)) ?_)
      refine h_storeAgg 3 (by decide +kernel) (List.Sublist.cons_cons _ (List.nil_sublist _)) ?_
      refine h_storeAgg 4 (by decide +kernel) (List.Sublist.cons_cons _ (List.nil_sublist _)) ?_
      refine h_end (by decide +kernel) ?_
      exact g_mem () trivial (by repeat (first | exact trivial | refine ⟨rfl, ?_⟩)) (by simp)
    repeat (first | refine g_op rfl ?_ | refine g_then ?_ | refine g_nil ?_ | refine g_region ?_ | refine g_seq ?_ | refine g_opS rfl ?_ | refine g_open ?_ | refine g_pass rfl ?_ | refine g_store ?_ | refine g_box rfl fun _ _ => ?_ | refine g_alloc rfl fun _ _ => ?_ | refine g_allocS rfl fun _ _ => ?_ | refine g_storeAgg ?_ | refine g_inBlock ?_ | refine g_block ?_ | refine g_skip ?_ | refine g_condT ?_ | refine g_condF ?_ | refine g_add rfl (by omega) (by omega) ?_ | refine g_sub rfl (by omega) (by omega) ?_ | refine g_exit ?_ | refine g_thenExit ?_ | refine g_exitHere ?_ | refine g_exitOn rfl ?_ | refine g_ret ?_ | refine g_thenRet ?_ | refine g_blockRet ?_ | refine g_passS rfl ?_ | refine g_pass0 ?_ | refine g_passU rfl ?_ | refine g_passUS rfl ?_ | refine g_storeV ?_ | refine g_build1 rfl rfl fun _ _ => ?_ | refine g_buildN rfl rfl fun _ _ => ?_ | refine g_make rfl (by omega) (by omega) fun _ _ => ?_)
    exact g_retTCC rfl fun w' hw' => ⟨rfl, hw'.chg⟩
  have h1' : ¬ (checkL u).1 ≠ 0 := by simp at h1; omega
  repeat (first | refine g_op rfl ?_ | refine g_then ?_ | refine g_nil ?_ | refine g_region ?_ | refine g_seq ?_ | refine g_opS rfl ?_ | refine g_open ?_ | refine g_pass rfl ?_ | refine g_store ?_ | refine g_box rfl fun _ _ => ?_ | refine g_alloc rfl fun _ _ => ?_ | refine g_allocS rfl fun _ _ => ?_ | refine g_storeAgg ?_ | refine g_inBlock ?_ | refine g_block ?_ | refine g_skip ?_ | refine g_condT ?_ | refine g_condF ?_ | refine g_add rfl (by omega) (by omega) ?_ | refine g_sub rfl (by omega) (by omega) ?_ | refine g_exit ?_ | refine g_thenExit ?_ | refine g_exitHere ?_ | refine g_exitOn rfl ?_ | refine g_ret ?_ | refine g_thenRet ?_ | refine g_blockRet ?_ | refine g_passS rfl ?_ | refine g_pass0 ?_ | refine g_passU rfl ?_ | refine g_passUS rfl ?_ | refine g_storeV ?_ | refine g_build1 rfl rfl fun _ _ => ?_ | refine g_buildN rfl rfl fun _ _ => ?_ | refine g_make rfl (by omega) (by omega) fun _ _ => ?_)
  refine g_cond (fun h2 => ?_) (fun h2 => ?_)
  · have h2' : 30 < inp.length := by simp at h2; omega
    rw [show countsE u inp.length fuel = (2, -1) by unfold countsE; rw [if_neg h1', if_pos h2']]
    repeat (first | refine g_op rfl ?_ | refine g_then ?_ | refine g_nil ?_ | refine g_region ?_ | refine g_seq ?_ | refine g_opS rfl ?_ | refine g_open ?_ | refine g_pass rfl ?_ | refine g_store ?_ | refine g_box rfl fun _ _ => ?_ | refine g_alloc rfl fun _ _ => ?_ | refine g_allocS rfl fun _ _ => ?_ | refine g_storeAgg ?_ | refine g_inBlock ?_ | refine g_block ?_ | refine g_skip ?_ | refine g_condT ?_ | refine g_condF ?_ | refine g_add rfl (by omega) (by omega) ?_ | refine g_sub rfl (by omega) (by omega) ?_ | refine g_exit ?_ | refine g_thenExit ?_ | refine g_exitHere ?_ | refine g_exitOn rfl ?_ | refine g_ret ?_ | refine g_thenRet ?_ | refine g_blockRet ?_ | refine g_passS rfl ?_ | refine g_pass0 ?_ | refine g_passU rfl ?_ | refine g_passUS rfl ?_ | refine g_storeV ?_ | refine g_build1 rfl rfl fun _ _ => ?_ | refine g_buildN rfl rfl fun _ _ => ?_ | refine g_make rfl (by omega) (by omega) fun _ _ => ?_)
    refine g_callV rfl (fun w _ => fault_c _ _ w) ?_
    repeat (first | refine g_op rfl ?_ | refine g_then ?_ | refine g_nil ?_ | refine g_region ?_ | refine g_seq ?_ | refine g_opS rfl ?_ | refine g_open ?_ | refine g_pass rfl ?_ | refine g_store ?_ | refine g_box rfl fun _ _ => ?_ | refine g_alloc rfl fun _ _ => ?_ | refine g_allocS rfl fun _ _ => ?_ | refine g_storeAgg ?_ | refine g_inBlock ?_ | refine g_block ?_ | refine g_skip ?_ | refine g_condT ?_ | refine g_condF ?_ | refine g_add rfl (by omega) (by omega) ?_ | refine g_sub rfl (by omega) (by omega) ?_ | refine g_exit ?_ | refine g_thenExit ?_ | refine g_exitHere ?_ | refine g_exitOn rfl ?_ | refine g_ret ?_ | refine g_thenRet ?_ | refine g_blockRet ?_ | refine g_passS rfl ?_ | refine g_pass0 ?_ | refine g_passU rfl ?_ | refine g_passUS rfl ?_ | refine g_storeV ?_ | refine g_build1 rfl rfl fun _ _ => ?_ | refine g_buildN rfl rfl fun _ _ => ?_ | refine g_make rfl (by omega) (by omega) fun _ _ => ?_)
    exact g_retTCC rfl fun w' hw' => ⟨rfl, hw'.chg⟩
  have h2' : ¬ 30 < inp.length := by simp at h2; omega
  repeat (first | refine g_op rfl ?_ | refine g_then ?_ | refine g_nil ?_ | refine g_region ?_ | refine g_seq ?_ | refine g_opS rfl ?_ | refine g_open ?_ | refine g_pass rfl ?_ | refine g_store ?_ | refine g_box rfl fun _ _ => ?_ | refine g_alloc rfl fun _ _ => ?_ | refine g_allocS rfl fun _ _ => ?_ | refine g_storeAgg ?_ | refine g_inBlock ?_ | refine g_block ?_ | refine g_skip ?_ | refine g_condT ?_ | refine g_condF ?_ | refine g_add rfl (by omega) (by omega) ?_ | refine g_sub rfl (by omega) (by omega) ?_ | refine g_exit ?_ | refine g_thenExit ?_ | refine g_exitHere ?_ | refine g_exitOn rfl ?_ | refine g_ret ?_ | refine g_thenRet ?_ | refine g_blockRet ?_ | refine g_passS rfl ?_ | refine g_pass0 ?_ | refine g_passU rfl ?_ | refine g_passUS rfl ?_ | refine g_storeV ?_ | refine g_build1 rfl rfl fun _ _ => ?_ | refine g_buildN rfl rfl fun _ _ => ?_ | refine g_make rfl (by omega) (by omega) fun _ _ => ?_)
  refine g_callV rfl (fun w _ => within_c _ _ _ w) ?_
  repeat (first | refine g_op rfl ?_ | refine g_then ?_ | refine g_nil ?_ | refine g_region ?_ | refine g_seq ?_ | refine g_opS rfl ?_ | refine g_open ?_ | refine g_pass rfl ?_ | refine g_store ?_ | refine g_box rfl fun _ _ => ?_ | refine g_alloc rfl fun _ _ => ?_ | refine g_allocS rfl fun _ _ => ?_ | refine g_storeAgg ?_ | refine g_inBlock ?_ | refine g_block ?_ | refine g_skip ?_ | refine g_condT ?_ | refine g_condF ?_ | refine g_add rfl (by omega) (by omega) ?_ | refine g_sub rfl (by omega) (by omega) ?_ | refine g_exit ?_ | refine g_thenExit ?_ | refine g_exitHere ?_ | refine g_exitOn rfl ?_ | refine g_ret ?_ | refine g_thenRet ?_ | refine g_blockRet ?_ | refine g_passS rfl ?_ | refine g_pass0 ?_ | refine g_passU rfl ?_ | refine g_passUS rfl ?_ | refine g_storeV ?_ | refine g_build1 rfl rfl fun _ _ => ?_ | refine g_buildN rfl rfl fun _ _ => ?_ | refine g_make rfl (by omega) (by omega) fun _ _ => ?_)
  refine g_cond (fun h3 => ?_) (fun h3 => ?_)
  · rw [show countsE u inp.length fuel = (3, -1) by unfold countsE; rw [if_neg h1', if_neg h2', if_pos (by simpa using h3)]]
    repeat (first | refine g_op rfl ?_ | refine g_then ?_ | refine g_nil ?_ | refine g_region ?_ | refine g_seq ?_ | refine g_opS rfl ?_ | refine g_open ?_ | refine g_pass rfl ?_ | refine g_store ?_ | refine g_box rfl fun _ _ => ?_ | refine g_alloc rfl fun _ _ => ?_ | refine g_allocS rfl fun _ _ => ?_ | refine g_storeAgg ?_ | refine g_inBlock ?_ | refine g_block ?_ | refine g_skip ?_ | refine g_condT ?_ | refine g_condF ?_ | refine g_add rfl (by omega) (by omega) ?_ | refine g_sub rfl (by omega) (by omega) ?_ | refine g_exit ?_ | refine g_thenExit ?_ | refine g_exitHere ?_ | refine g_exitOn rfl ?_ | refine g_ret ?_ | refine g_thenRet ?_ | refine g_blockRet ?_ | refine g_passS rfl ?_ | refine g_pass0 ?_ | refine g_passU rfl ?_ | refine g_passUS rfl ?_ | refine g_storeV ?_ | refine g_build1 rfl rfl fun _ _ => ?_ | refine g_buildN rfl rfl fun _ _ => ?_ | refine g_make rfl (by omega) (by omega) fun _ _ => ?_)
    refine g_callV rfl (fun w _ => fault_c _ _ w) ?_
    repeat (first | refine g_op rfl ?_ | refine g_then ?_ | refine g_nil ?_ | refine g_region ?_ | refine g_seq ?_ | refine g_opS rfl ?_ | refine g_open ?_ | refine g_pass rfl ?_ | refine g_store ?_ | refine g_box rfl fun _ _ => ?_ | refine g_alloc rfl fun _ _ => ?_ | refine g_allocS rfl fun _ _ => ?_ | refine g_storeAgg ?_ | refine g_inBlock ?_ | refine g_block ?_ | refine g_skip ?_ | refine g_condT ?_ | refine g_condF ?_ | refine g_add rfl (by omega) (by omega) ?_ | refine g_sub rfl (by omega) (by omega) ?_ | refine g_exit ?_ | refine g_thenExit ?_ | refine g_exitHere ?_ | refine g_exitOn rfl ?_ | refine g_ret ?_ | refine g_thenRet ?_ | refine g_blockRet ?_ | refine g_passS rfl ?_ | refine g_pass0 ?_ | refine g_passU rfl ?_ | refine g_passUS rfl ?_ | refine g_storeV ?_ | refine g_build1 rfl rfl fun _ _ => ?_ | refine g_buildN rfl rfl fun _ _ => ?_ | refine g_make rfl (by omega) (by omega) fun _ _ => ?_)
    exact g_retTCC rfl fun w' hw' => ⟨rfl, hw'.chg⟩
  · exact absurd (by unfold countsE; rw [if_neg h1', if_neg h2', if_neg (by simpa using h3)]) hbad
end Go.Proofs.YtbmnkjaelfjlhaaDoor


/- The blocks that a run comes to: each at the end of a path over such blocks. No program in sight. -/
namespace Go.Proofs.YtbmnkjaelfjlhaaDoor
open Go Go.RowKit

/-- a path from block 0 over blocks that were come to -/
inductive VP (bl : List LBlock) (l : List Nat) : Nat → Prop
  | zero : 0 < l.getD 0 0 → VP bl l 0
  | step {x y : Nat} : VP bl l x → Edge bl x y → 0 < l.getD y 0 → VP bl l y
theorem VP.mono {bl : List LBlock} {l l' : List Nat} (h : ∀ b, 0 < l.getD b 0 → 0 < l'.getD b 0) {b : Nat} (hp : VP bl l b) : VP bl l' b := by
  induction hp with
  | zero h0 => exact .zero (h _ h0)
  | step _ he hy ih => exact .step ih he (h _ hy)
theorem VP.rch {bl : List LBlock} {l : List Nat} {b : Nat} {wo : Int} (hp : VP bl l b) (h : ∀ d : Nat, (d : Int) = wo → l.getD d 0 = 0) : Rch bl wo 0 b := by
  induction hp with
  | zero _ => exact .refl
  | step _ he hy ih => exact .step ih he fun e => by have := h _ e; omega
/-- what is over a block that was come to was come to -/
theorem VP.dom {bl : List LBlock} {l : List Nat} {b d : Nat} (hp : VP bl l b) (hb : 0 < l.getD b 0) (hd : Dom bl d b) : 0 < l.getD d 0 := by
  rcases Nat.eq_zero_or_pos (l.getD d 0) with h0 | h0
  · rcases hd.2.2 with rfl | rfl | h
    · omega
    · have : ∀ {b}, VP bl l b → 0 < l.getD 0 0 := fun {b} hp => by
        induction hp with
        | zero h => exact h
        | step _ _ _ ih => exact ih
      exact this hp
    · exact absurd (hp.rch fun e he => by rw [show e = d by omega]; exact h0) h
  · exact h0
/-- the blocks of each function -/
def VisOk (u : LUnit) (cs : List (List Nat)) : Prop := ∀ (k : Nat) (X : LFunc) (l : List Nat), u.funcs[k]? = some X → cs[k]? = some l → ∀ b, 0 < l.getD b 0 → VP X.blocks l b
def Here (cs : List (List Nat)) (f : Frm) : Prop := ∃ l, cs[f.fn]? = some l ∧ 0 < l.getD f.block 0
theorem bump_row {cs : List (List Nat)} {k b : Nat} (j : Nat) : (bump cs k b)[j]? = if k = j then (cs[j]?).map fun l => l.modify b (· + 1) else cs[j]? := by
  unfold bump
  rw [List.getElem?_modify]
  by_cases e : k = j
  · simp only [e, if_true]; rfl
  · simp only [e, if_false, id_map']
theorem modify_getD (l : List Nat) (b c : Nat) : (l.modify b (· + 1)).getD c 0 = if b = c ∧ c < l.length then l.getD c 0 + 1 else l.getD c 0 := by
  rw [List.getD_eq_getElem?_getD, List.getD_eq_getElem?_getD, List.getElem?_modify]
  by_cases hc : c < l.length
  · rw [List.getElem?_eq_getElem hc]
    by_cases e : b = c
    · simp [e, hc]
    · simp [e]
  · rw [List.getElem?_eq_none (by omega)]
    simp [hc]
theorem modify_pos {l : List Nat} {b c : Nat} (h : 0 < l.getD c 0) : 0 < (l.modify b (· + 1)).getD c 0 := by
  rw [modify_getD]; split <;> omega
theorem Here.bump {cs : List (List Nat)} {f : Frm} (h : Here cs f) (k b : Nat) : Here (bump cs k b) f := by
  obtain ⟨l, h1, h2⟩ := h
  by_cases e : k = f.fn
  · exact ⟨_, by rw [bump_row, if_pos e, h1]; rfl, modify_pos h2⟩
  · exact ⟨l, by rw [bump_row, if_neg e, h1], h2⟩
theorem VisOk.bump {u : LUnit} {cs : List (List Nat)} (h : VisOk u cs) {k b : Nat} (hb : ∀ X l, u.funcs[k]? = some X → cs[k]? = some l → b = 0 ∨ ∃ x, VP X.blocks l x ∧ Edge X.blocks x b) : VisOk u (bump cs k b) := by
  intro j X l hX hl c hc
  rw [bump_row] at hl
  by_cases e : k = j
  · subst e
    rw [if_pos rfl] at hl
    obtain ⟨l0, h0, rfl⟩ := Option.map_eq_some_iff.1 hl
    have hm : ∀ c, 0 < l0.getD c 0 → 0 < (l0.modify b (· + 1)).getD c 0 := fun c hc => modify_pos hc
    by_cases h1 : 0 < l0.getD c 0
    · exact (h k X l0 hX h0 c h1).mono hm
    · have hbc : b = c := by
        rw [modify_getD] at hc
        split at hc
        · rename_i h2; exact h2.1
        · omega
      subst hbc
      rcases hb X l0 hX h0 with rfl | ⟨x, hx, he⟩
      · exact .zero hc
      · exact .step (hx.mono hm) he hc
  · rw [if_neg e] at hl
    exact h j X l hX hl c hc
structure VisMac (u : LUnit) (s : Mac) : Prop where
  vis : VisOk u s.counts
  top : Here s.counts s.top
  rest : ∀ f ∈ s.rest, Here s.counts f
theorem here_bump {u : LUnit} {cs : List (List Nat)} {c : Nat} (h : cs.length = u.funcs.length ∧ ∀ (k : Nat) (X : LFunc), u.funcs[k]? = some X → ∃ l, cs[k]? = some l ∧ l.length = X.blocks.length ∧ ∀ x ∈ l, x ≤ c) {f : Frm} {X : LFunc} (hX : u.funcs[f.fn]? = some X) (hb : f.block < X.blocks.length) : Here (bump cs f.fn f.block) f := by
  obtain ⟨l, h1, h2, _⟩ := h.2 _ X hX
  exact ⟨_, by rw [bump_row, if_pos rfl, h1]; rfl, by rw [modify_getD, if_pos ⟨rfl, by omega⟩]; omega⟩
theorem jump_vis {u : LUnit} {c : Nat} {s : Mac} (h : MacOk u c s) (hv : VisMac u s) {X : LFunc} {R : Nat} (hf : FrmOk u s.top X R) {to : Nat} {T : LBlock} (hg : GoTo X s.top.block to T) : VisMac u (jumpM u s to) := by
  rw [jumpM_eq hf.get hg.get]
  have hto := (List.getElem?_eq_some_iff.1 hg.get).1
  have hed : Edge X.blocks s.top.block to := by
    have := hg.mem
    unfold preds at this
    have h9 := (List.mem_filter.1 this).2
    simp only [decide_eq_true_eq] at h9
    exact h9
  refine ⟨hv.vis.bump fun Y l hY hl => .inr ⟨s.top.block, ?_, ?_⟩, ?_, fun f hf => (hv.rest f hf).bump _ _⟩
  · obtain ⟨l', h1, h2⟩ := hv.top
    rw [hl] at h1
    rw [← Option.some.inj h1] at h2
    exact hv.vis _ Y l hY hl _ h2
  · rw [hf.get] at hY
    rw [← Option.some.inj hY]; exact hed
  · exact here_bump h.cnt (f := { s.top with regs := phisM s.top ((preds X.blocks to).idxOf s.top.block) T.phis, block := to, at' := 0 }) hf.get hto
theorem enter_vis {u : LUnit} {c : Nat} {s : Mac} (h : MacOk u c s) (hv : VisMac u s) {fn R : Nat} {Y : LFunc} (hY : u.funcs[fn]? = some Y) (hfit : FnFit u Y R) (dst : Int) (args : List Int) : VisMac u (enterM u s fn dst args) := by
  rw [enterM_eq hY hfit.regs]
  refine ⟨hv.vis.bump fun _ _ _ _ => .inl rfl, here_bump h.cnt (f := ⟨fn, 0, 0, enterR R args, dst⟩) hY hfit.pos, fun f hf => ?_⟩
  rcases List.mem_append.1 hf with hf | hf
  · exact (hv.rest f hf).bump _ _
  · rw [List.mem_singleton.1 hf]; exact hv.top.bump _ _
theorem end_vis {u : LUnit} {c : Nat} {s : Mac} (h : MacOk u c s) (hv : VisMac u s) {X : LFunc} {R : Nat} (hf : FrmOk u s.top X R) {B : LBlock} (hB : X.blocks[s.top.block]? = some B) {s' : Mac} (he : endM u s B = .inl s') : VisMac u s' := by
  have hfit := hf.fit.blk B (List.mem_of_getElem? hB)
  have hlen := hfit.kind.2
  unfold endM at he
  by_cases h2 : B.kind = 2
  · rw [if_pos h2] at he
    obtain ⟨to, T, e, hg⟩ := goTo hf hB (to_get (B := B) (i := 0) (by omega))
    rw [e] at he
    rw [← Sum.inl.inj he]
    exact jump_vis h hv hf hg
  rw [if_neg h2] at he
  by_cases h3 : B.kind = 3
  · rw [if_pos h3] at he
    rw [← Sum.inl.inj he]
    split
    · obtain ⟨to, T, e, hg⟩ := goTo hf hB (to_get (B := B) (i := 0) (by omega))
      rw [e]
      exact jump_vis h hv hf hg
    · obtain ⟨to, T, e, hg⟩ := goTo hf hB (to_get (B := B) (i := 1) (by omega))
      rw [e]
      exact jump_vis h hv hf hg
  rw [if_neg h3] at he
  cases hl : s.rest.getLast? with
  | none => rw [hl] at he; cases he
  | some t =>
    rw [hl] at he
    rw [← Sum.inl.inj he]
    have hsp := last_split hl
    exact ⟨hv.vis, hv.rest t (by rw [hsp]; simp), fun f hf => hv.rest f (List.dropLast_subset _ hf)⟩
theorem ins_vis {u : LUnit} (hu : UnitFit u) {c : Nat} {s : Mac} (h : MacOk u c s) (hv : VisMac u s) {R : Nat} {x : LIns} (hx : InsFit u R x) {s' : Mac} (he : insM u s x = .inl s') : VisMac u s' := by
  unfold insM at he
  simp only at he
  by_cases h1 : x.op = 18 ∨ x.op = 19
  · rw [if_pos h1] at he
    split at he
    · cases he
    split at he
    · rw [← Sum.inl.inj he]; exact ⟨hv.vis, hv.top, hv.rest⟩
    · rw [← Sum.inl.inj he]; exact ⟨hv.vis, hv.top, hv.rest⟩
  rw [if_neg h1] at he
  by_cases h2 : x.op = 20
  · rw [if_pos h2] at he
    split at he
    · cases he
    obtain ⟨k, Y, e, hY, _⟩ := hx.call h2
    rw [e, Int.toNat_natCast] at he
    rw [← Sum.inl.inj he]
    obtain ⟨R', hfit⟩ := hu.2 k Y hY
    exact enter_vis h hv hY hfit _ _
  rw [if_neg h2] at he
  by_cases h3 : x.op = 21
  · rw [if_pos h3] at he
    rw [← Sum.inl.inj he]; exact ⟨hv.vis, hv.top, hv.rest⟩
  rw [if_neg h3] at he
  by_cases h4 : x.op = 22
  · rw [if_pos h4] at he
    split at he
    · cases he
    rw [← Sum.inl.inj he]; exact ⟨hv.vis, hv.top, hv.rest⟩
  rw [if_neg h4] at he
  cases ht : twoL x.op (valM s.top x.a) (valM s.top x.b) with
  | none => rw [ht] at he; cases he
  | some n =>
    rw [ht] at he
    rw [← Sum.inl.inj he]; exact ⟨hv.vis, hv.top, hv.rest⟩
theorem step_vis {u : LUnit} (hu : UnitFit u) {s s' : Mac} (h : MacOk u (s.steps + 1) s) (hv : VisMac u s) (he : stepM u s = .inl s') : VisMac u s' := by
  obtain ⟨X, R, hf⟩ := h.top
  obtain ⟨B, hB⟩ : ∃ B, X.blocks[s.top.block]? = some B := ⟨_, List.getElem?_eq_getElem hf.block⟩
  rw [stepM_eq, blockM_eq hf hB] at he
  have hv1 : VisMac u (tick s) := ⟨hv.vis, hv.top, hv.rest⟩
  cases hx : B.list[s.top.at']? with
  | none =>
    rw [hx] at he
    exact end_vis (tick_ok h) hv1 hf hB he
  | some x =>
    rw [hx] at he
    have hlt := (List.getElem?_eq_some_iff.1 hx).1
    obtain ⟨h3, _⟩ := goOn_ok (tick_ok h) (s := tick s) hf hB hlt
    exact ins_vis hu h3 (s := goOn (tick s)) ⟨hv.vis, hv.top, hv.rest⟩ ((hf.fit.blk B (List.mem_of_getElem? hB)).list.2 x (List.mem_of_getElem? hx)) he
theorem step_fin {u : LUnit} {s : Mac} {f : Fin} (he : stepM u s = .inr f) : f.counts = s.counts := by
  rw [stepM_eq] at he
  split at he
  · unfold endM at he
    split at he
    · cases he
    split at he
    · cases he
    split at he
    · rw [← Sum.inr.inj he]; rfl
    · cases he
  · unfold insM at he
    simp only at he
    repeat' (split at he)
    all_goals first
      | (cases he; done)
      | (rw [← Sum.inr.inj he] <;> rfl)
def CntOk (u : LUnit) (c : Nat) (cs : List (List Nat)) : Prop := cs.length = u.funcs.length ∧ ∀ (k : Nat) (X : LFunc), u.funcs[k]? = some X → ∃ l, cs[k]? = some l ∧ l.length = X.blocks.length ∧ ∀ x ∈ l, x ≤ c
theorem CntOk.mono {u : LUnit} {c d : Nat} {cs : List (List Nat)} (h : CntOk u c cs) (hcd : c ≤ d) : CntOk u d cs := ⟨h.1, fun k X hX => by
  obtain ⟨l, h1, h2, h3⟩ := h.2 k X hX
  exact ⟨l, h1, h2, fun x hx => Nat.le_trans (h3 x hx) hcd⟩⟩
theorem run_vis {u : LUnit} (hu : UnitFit u) : ∀ (n : Nat) (s : Mac), MacOk u (s.steps + 1) s → VisMac u s → CntOk u (s.steps + n + 1) (runM u n s).counts ∧ VisOk u (runM u n s).counts
  | 0, s, h, hv => ⟨h.cnt, hv.vis⟩
  | n + 1, s, h, hv => by
    rw [runM]
    cases he : stepM u s with
    | inl s' =>
      obtain ⟨h1, h2⟩ := step_ok hu h he
      have := run_vis hu n s' h1 (step_vis hu h hv he)
      rw [h2] at this
      exact ⟨this.1.mono (by omega), this.2⟩
    | inr f =>
      simp only
      rw [step_fin he]
      exact ⟨CntOk.mono h.cnt (by omega), hv.vis⟩
theorem start_vis {u : LUnit} (hu : UnitFit u) (hs : StartOk u) (inp : List Int) : VisMac u (startM u inp) := by
  obtain ⟨fm, M, hm, hM⟩ := hs.main
  obtain ⟨R, hfit⟩ := hu.2 fm M hM
  rw [start_eq hm hM hfit.regs]
  have h0 : VisOk u (u.funcs.map fun X => List.replicate X.blocks.length 0) := fun k X l hX hl b hb => by
    rw [List.getElem?_map, hX] at hl
    rw [← Option.some.inj hl] at hb
    simp [List.getD_eq_getElem?_getD, List.getElem?_replicate] at hb
    split at hb <;> simp at hb
  exact ⟨h0.bump fun _ _ _ _ => .inl rfl, here_bump (c := 0) ⟨by simp, fun k X hX => ⟨_, by rw [List.getElem?_map, hX]; rfl, by simp, fun x hx => by rw [List.eq_of_mem_replicate hx]; exact Nat.le_refl _⟩⟩ (f := ⟨fm, 0, 0, enterR R [], -1⟩) hM hfit.pos, by simp⟩
/-- what a run's counts say -/
theorem result_vis {u : LUnit} (hu : UnitFit u) (hs : StartOk u) {inp : List Int} (hin : ∀ x ∈ inp, inI x) (fuel : Nat) : CntOk u (fuel + 1) (resultM u inp fuel).counts ∧ VisOk u (resultM u inp fuel).counts := by
  have h := run_vis hu fuel (startM u inp) (start_ok hu hs hin) (start_vis hu hs inp)
  have h0 : (startM u inp).steps = 0 := rfl
  rw [h0, Nat.zero_add] at h
  exact h
end Go.Proofs.YtbmnkjaelfjlhaaDoor


/- What a run's counts are, as a table that is known. -/
namespace Go.Proofs.YtbmnkjaelfjlhaaDoor
open Go Go.RowKit
set_option maxHeartbeats 2000000

def natsI (l : List Nat) : List Int := l.map fun x : Nat => (x : Int)
def countsI (cs : List (List Nat)) : List (List Int) := cs.map natsI
theorem cns_sl {S : Nat → Prop} {w0 w : World} {m : MacV} {H : List Ent} (h : Wd S w0 (cnsE m :: (m.cs.map cnE ++ H)) w) (hb : m.cs.length ≤ 1000) (hl : ∀ r ∈ m.cs, r.l.length ≤ 1000 ∧ ∀ x ∈ r.l, x ≤ 1000000) : SlAt w (.slice m.ca m.cs.length m.cc) 1 (countsI (m.cs.map (·.l))) RowV := by
  refine h.slAt (k := 0) rfl (by simp [countsI]) (by omega) fun i x hx => ?_
  unfold countsI at hx
  rw [List.getElem?_map, List.getElem?_map] at hx
  obtain ⟨_, hq, rfl⟩ := Option.map_eq_some_iff.1 hx
  obtain ⟨r, hr, e⟩ := Option.map_eq_some_iff.1 hq
  subst e
  have hlt : i < m.cs.length := (List.getElem?_eq_some_iff.1 hr).1
  have hb' := hl r (List.mem_of_getElem? hr)
  refine ⟨[cnV r], fun j v hj => ?_, cnV r, rfl, ?_⟩
  · match j, hj with
    | 0, hj => simpa [hr] using hj
  · refine h.slAt (k := i + 1) (a := r.a) (n := r.l.length) (c := r.c) (e := 3) (s := 1) (xs := r.l.map fun x : Nat => .int .i64 x) ?_ (by simp [natsI]) (by omega) fun j y hy => ?_
    · rw [List.getElem?_cons_succ, List.getElem?_append_left (by simpa using hlt), List.getElem?_map, hr]; rfl
    · unfold natsI at hy
      rw [List.getElem?_map] at hy
      obtain ⟨z, hz, rfl⟩ := Option.map_eq_some_iff.1 hy
      refine ⟨[.int .i64 (z : Int)], fun k v hk => ?_, rfl, ?_⟩
      · match k, hk with
        | 0, hk => simpa [hz] using hk
      · have := hb'.2 z (List.mem_of_getElem? hz)
        unfold inI
        omega
theorem countsE_zero {u : LUnit} {n : Nat} {fuel : Int} (h : (countsE u n fuel).1 = 0) : (checkL u).1 = 0 ∧ n ≤ 30 ∧ ∃ k : Nat, fuel = k ∧ k ≤ 100000 := by
  unfold countsE at h
  split at h
  · rename_i h1; exact absurd h h1
  rename_i h1
  split at h
  · cases h
  split at h
  · cases h
  rename_i h3
  simp only [within, Bool.not_eq_true', Bool.and_eq_false_iff, decide_eq_false_iff_not, not_or, Decidable.not_not] at h3
  exact ⟨by simpa using h1, by omega, fuel.toNat, by omega, by omega⟩
/-- what is so of what a run counts -/
structure CountsOk (u : LUnit) (cs : List (List Nat)) : Prop where
  cnt : CntOk u 100001 cs
  vis : VisOk u cs
theorem countsK (u : LUnit) (hl : light u) (g fs iv : Value) (inp : List Int) (fuel : Nat) (hgood : (countsE u inp.length fuel).1 = 0) (w0 : World) (hg : SlAt w0 g 3 u.globals GlobalV) (hf : SlAt w0 fs 4 u.funcs FuncV) (hin : SlAt w0 iv 1 inp IntV) (hways : CellsAt w0 0 0 waysC) :
    CountsOk u (resultM u inp fuel).counts ∧ Ret Tryd.prog 25 [.agg #[g, fs], iv, .int .i64 fuel] w0 fun v w' => ∃ x : (Option Addr × Nat × (Nat → Prop)) × (Option Addr × Nat × Nat),
      v = .tuple #[.slice x.1.1 (resultM u inp fuel).counts.length x.1.2.1, .agg #[.int .i64 (resultM u inp fuel).state,   .int .i64 (resultM u inp fuel).value, .slice x.2.1 x.2.2.1 x.2.2.2, .int .i64 (resultM u inp fuel).steps], .agg #[.int .i64 0, .int .i64 0]] ∧
      Wd NoS w0 [⟨x.1.2.2, fun w => SlAt w (.slice x.1.1 (resultM u inp fuel).counts.length x.1.2.1) 1 (countsI (resultM u inp fuel).counts) RowV⟩] w' ∧ True := by
  obtain ⟨h0, hil, k, hk, hk'⟩ := countsE_zero hgood
  have hkf : fuel = k := by omega
  have hu := unit_fit hl h0 (nums_of hf)
  have hs := check_start h0 (gnums_of hg)
  have hini : ∀ x ∈ inp, inI x := fun x hx => by obtain ⟨_, _, h9⟩ := hin.el hx; exact h9
  have hv := result_vis hu hs hini fuel
  refine ⟨⟨hv.1.mono (by omega), hv.2⟩, (counts_c u hl h0 hs hu g fs iv inp fuel (by omega) hil w0 hg hf hin hways).mono fun v w' ⟨m, h1, h2, h3⟩ => ?_⟩
  have hlen : m.cs.length = (resultM u inp fuel).counts.length := by rw [← h3.cnt, List.length_map]
  refine ⟨((m.ca, m.cc, fps (cnsE m :: m.cs.map cnE)), (m.oa, m.out.length, m.oc)), ?_, ?_, trivial⟩
  · rw [h1, hlen, h3.state, h3.value, h3.steps]
  · have h4 : Wd NoS w0 ((cnsE m :: m.cs.map cnE) ++ []) w' := by rw [List.append_nil]; exact h2.sub (List.sublist_cons_self _ _)
    refine h4.pack _ fun w2 hw2 => ?_
    have h5 := cns_sl (H := []) (by rw [List.append_nil]; exact hw2) (by rw [hlen, hv.1.1]; have := hs.funcs; omega) fun r hr => ?_
    · rw [h3.cnt, hlen] at h5
      exact h5
    · have h9 : r.l ∈ (resultM u inp fuel).counts := by rw [← h3.cnt]; exact List.mem_map.2 ⟨r, hr, rfl⟩
      obtain ⟨j, hj⟩ := List.getElem?_of_mem h9
      have hjl : j < u.funcs.length := by rw [← hv.1.1]; exact (List.getElem?_eq_some_iff.1 hj).1
      obtain ⟨l, e1, e2, e3⟩ := hv.1.2 j _ (List.getElem?_eq_getElem hjl)
      rw [hj] at e1
      obtain ⟨_, hfit⟩ := hu.2 j _ (List.getElem?_eq_getElem hjl)
      have := hfit.few
      rw [Option.some.inj e1]
      exact ⟨by omega, fun x hx => by have := e3 x hx; omega⟩
end Go.Proofs.YtbmnkjaelfjlhaaDoor

