/- The law DomHangs, walked. -/
import Derived.Test.YtebajiafdkokjaaDoorHangC
namespace Go.Proofs.YtebajiafdkokjaaDoor
open Go Go.RowKit
attribute [local irreducible] wpListIn Code.wpIn Exit.then Exit.inBlock bodyPost wpQuiet wpAnyIn
set_option maxHeartbeats 2000000

theorem gridL_bd {R : Nat → Nat → Prop} {n : Nat} (hn : n ≤ 100) {l : List Int} (h : l ∈ gridL R n) : l.length ≤ 1000 ∧ ∀ x ∈ l, inI x := by
  classical
  obtain ⟨b, hb, rfl⟩ := List.mem_map.1 h
  have := gridTo_bd R hn b n b hn
  simp only [gridTo, Nat.lt_irrefl, if_false, if_true] at this
  exact ⟨by omega, this.2⟩
/-- a table of rows of numbers, packed -/
theorem Wd.grid {S : Nat → Prop} {w0 w : World} {rs : List Row} {bo n e : Nat} {R : Nat → Nat → Prop} (h : Wd S w0 (Ent.vec (some ⟨bo, 0, none⟩) n n e 1 (rs.map valR) :: rs.map entR) w) (hl : rs.length = n) (hn : n ≤ 100) (hr : rs.map (·.l) = gridL R n) :
    Wd S w0 [⟨fps (Ent.vec (some ⟨bo, 0, none⟩) n n e 1 (rs.map valR) :: rs.map entR), fun w => SlAt w (.slice (some ⟨bo, 0, none⟩) n n) 1 (gridL R n) RowV⟩] w := by
  have h1 : Wd S w0 ((Ent.vec (some ⟨bo, 0, none⟩) n n e 1 (rs.map valR) :: rs.map entR) ++ []) w := by rw [List.append_nil]; exact h
  refine h1.pack _ fun w2 hw2 => ?_
  rw [← hr]
  refine rows_sl (H := []) (by rw [List.append_nil]; exact hw2) hl.symm hn fun r hr' => gridL_bd hn (hr ▸ List.mem_map.2 ⟨r, hr', rfl⟩)
theorem hangLaw_c (u : LUnit) (k : Int) (hk : inI k) (g fs : Value) (w0 : World) (hg : SlAt w0 g 3 u.globals GlobalV) (hf : SlAt w0 fs 4 u.funcs FuncV) (hways : CellsAt w0 0 0 waysC) :
    RetV Tryd.prog 6 [.agg #[g, fs], .int .i64 k] w0 (.bool true) := by
  have hg0 := hg
  have hf0 := hf
  obtain ⟨ga, gn, gc, gb, go, rfl, _⟩ := hg
  obtain ⟨fa, fn, fc, fb, fo, rfl, hfn, hfnc, hfnb, hfc, hfa, hfel⟩ := hf
  refine ret_enter Tryd.func6 rfl Tryd.ntmps6 rfl (Wd.nil NoS w0) ?_
  repeat (first | refine g_op rfl ?_ | refine g_then ?_ | refine g_nil ?_ | refine g_region ?_ | refine g_seq ?_ | refine g_opS rfl ?_ | refine g_open ?_ | refine g_pass rfl ?_ | refine g_store ?_ | refine g_box rfl fun _ _ => ?_ | refine g_alloc rfl fun _ _ => ?_ | refine g_allocS rfl fun _ _ => ?_ | refine g_storeAgg ?_ | refine g_inBlock ?_ | refine g_block ?_ | refine g_skip ?_ | refine g_condT ?_ | refine g_condF ?_ | refine g_add rfl (by omega) (by omega) ?_ | refine g_sub rfl (by omega) (by omega) ?_ | refine g_exit ?_ | refine g_thenExit ?_ | refine g_exitHere ?_ | refine g_exitOn rfl ?_ | refine g_ret ?_ | refine g_thenRet ?_ | refine g_blockRet ?_ | refine g_passS rfl ?_ | refine g_pass0 ?_ | refine g_passU rfl ?_ | refine g_passUS rfl ?_ | refine g_storeV ?_ | refine g_build1 rfl rfl fun _ _ => ?_ | refine g_buildN rfl rfl fun _ _ => ?_ | refine g_make rfl (by omega) (by omega) fun _ _ => ?_)
  rename_i p2 _
  refine g_callE (val := fun b : Bool => .bool b) (E := fun _ => []) (φ := fun b => b = false → light u) rfl (fun w hw => heavy_c u _ _ w (hf0.keep keeps_func hw.chg) ⟨_, _, _, rfl⟩) fun b hb => ?_
  simp only [List.nil_append]
  cases b
  case true =>
    repeat (first | refine g_op rfl ?_ | refine g_then ?_ | refine g_nil ?_ | refine g_region ?_ | refine g_seq ?_ | refine g_opS rfl ?_ | refine g_open ?_ | refine g_pass rfl ?_ | refine g_store ?_ | refine g_box rfl fun _ _ => ?_ | refine g_alloc rfl fun _ _ => ?_ | refine g_allocS rfl fun _ _ => ?_ | refine g_storeAgg ?_ | refine g_inBlock ?_ | refine g_block ?_ | refine g_skip ?_ | refine g_condT ?_ | refine g_condF ?_ | refine g_add rfl (by omega) (by omega) ?_ | refine g_sub rfl (by omega) (by omega) ?_ | refine g_exit ?_ | refine g_thenExit ?_ | refine g_exitHere ?_ | refine g_exitOn rfl ?_ | refine g_ret ?_ | refine g_thenRet ?_ | refine g_blockRet ?_ | refine g_passS rfl ?_ | refine g_pass0 ?_ | refine g_passU rfl ?_ | refine g_passUS rfl ?_ | refine g_storeV ?_ | refine g_build1 rfl rfl fun _ _ => ?_ | refine g_buildN rfl rfl fun _ _ => ?_ | refine g_make rfl (by omega) (by omega) fun _ _ => ?_)
    exact g_retV rfl rfl
  have hl := hb rfl
  repeat (first | refine g_op rfl ?_ | refine g_then ?_ | refine g_nil ?_ | refine g_region ?_ | refine g_seq ?_ | refine g_opS rfl ?_ | refine g_open ?_ | refine g_pass rfl ?_ | refine g_store ?_ | refine g_box rfl fun _ _ => ?_ | refine g_alloc rfl fun _ _ => ?_ | refine g_allocS rfl fun _ _ => ?_ | refine g_storeAgg ?_ | refine g_inBlock ?_ | refine g_block ?_ | refine g_skip ?_ | refine g_condT ?_ | refine g_condF ?_ | refine g_add rfl (by omega) (by omega) ?_ | refine g_sub rfl (by omega) (by omega) ?_ | refine g_exit ?_ | refine g_thenExit ?_ | refine g_exitHere ?_ | refine g_exitOn rfl ?_ | refine g_ret ?_ | refine g_thenRet ?_ | refine g_blockRet ?_ | refine g_passS rfl ?_ | refine g_pass0 ?_ | refine g_passU rfl ?_ | refine g_passUS rfl ?_ | refine g_storeV ?_ | refine g_build1 rfl rfl fun _ _ => ?_ | refine g_buildN rfl rfl fun _ _ => ?_ | refine g_make rfl (by omega) (by omega) fun _ _ => ?_)
  by_cases hbad : (askedL u k).1 ≠ 0
  · refine g_callV rfl (fun w hw => hang_bad u hl k hk hbad _ _ w (hg0.keep keeps_global hw.chg) (hf0.keep keeps_func hw.chg) (hways.keep hw.chg)) ?_
    repeat (first | refine g_op rfl ?_ | refine g_then ?_ | refine g_nil ?_ | refine g_region ?_ | refine g_seq ?_ | refine g_opS rfl ?_ | refine g_open ?_ | refine g_pass rfl ?_ | refine g_store ?_ | refine g_box rfl fun _ _ => ?_ | refine g_alloc rfl fun _ _ => ?_ | refine g_allocS rfl fun _ _ => ?_ | refine g_storeAgg ?_ | refine g_inBlock ?_ | refine g_block ?_ | refine g_skip ?_ | refine g_condT ?_ | refine g_condF ?_ | refine g_add rfl (by omega) (by omega) ?_ | refine g_sub rfl (by omega) (by omega) ?_ | refine g_exit ?_ | refine g_thenExit ?_ | refine g_exitHere ?_ | refine g_exitOn rfl ?_ | refine g_ret ?_ | refine g_thenRet ?_ | refine g_blockRet ?_ | refine g_passS rfl ?_ | refine g_pass0 ?_ | refine g_passU rfl ?_ | refine g_passUS rfl ?_ | refine g_storeV ?_ | refine g_build1 rfl rfl fun _ _ => ?_ | refine g_buildN rfl rfl fun _ _ => ?_ | refine g_make rfl (by omega) (by omega) fun _ _ => ?_)
    refine g_callV rfl (fun w hw => asked_c u hl k _ _ w (hg0.keep keeps_global hw.chg) (hf0.keep keeps_func hw.chg) (hways.keep hw.chg)) ?_
    repeat (first | refine g_op rfl ?_ | refine g_then ?_ | refine g_nil ?_ | refine g_region ?_ | refine g_seq ?_ | refine g_opS rfl ?_ | refine g_open ?_ | refine g_pass rfl ?_ | refine g_store ?_ | refine g_box rfl fun _ _ => ?_ | refine g_alloc rfl fun _ _ => ?_ | refine g_allocS rfl fun _ _ => ?_ | refine g_storeAgg ?_ | refine g_inBlock ?_ | refine g_block ?_ | refine g_skip ?_ | refine g_condT ?_ | refine g_condF ?_ | refine g_add rfl (by omega) (by omega) ?_ | refine g_sub rfl (by omega) (by omega) ?_ | refine g_exit ?_ | refine g_thenExit ?_ | refine g_exitHere ?_ | refine g_exitOn rfl ?_ | refine g_ret ?_ | refine g_thenRet ?_ | refine g_blockRet ?_ | refine g_passS rfl ?_ | refine g_pass0 ?_ | refine g_passU rfl ?_ | refine g_passUS rfl ?_ | refine g_storeV ?_ | refine g_build1 rfl rfl fun _ _ => ?_ | refine g_buildN rfl rfl fun _ _ => ?_ | refine g_make rfl (by omega) (by omega) fun _ _ => ?_)
    refine g_cond (fun h1 => ?_) (fun h1 => ?_)
    · repeat (first | refine g_op rfl ?_ | refine g_then ?_ | refine g_nil ?_ | refine g_region ?_ | refine g_seq ?_ | refine g_opS rfl ?_ | refine g_open ?_ | refine g_pass rfl ?_ | refine g_store ?_ | refine g_box rfl fun _ _ => ?_ | refine g_alloc rfl fun _ _ => ?_ | refine g_allocS rfl fun _ _ => ?_ | refine g_storeAgg ?_ | refine g_inBlock ?_ | refine g_block ?_ | refine g_skip ?_ | refine g_condT ?_ | refine g_condF ?_ | refine g_add rfl (by omega) (by omega) ?_ | refine g_sub rfl (by omega) (by omega) ?_ | refine g_exit ?_ | refine g_thenExit ?_ | refine g_exitHere ?_ | refine g_exitOn rfl ?_ | refine g_ret ?_ | refine g_thenRet ?_ | refine g_blockRet ?_ | refine g_passS rfl ?_ | refine g_pass0 ?_ | refine g_passU rfl ?_ | refine g_passUS rfl ?_ | refine g_storeV ?_ | refine g_build1 rfl rfl fun _ _ => ?_ | refine g_buildN rfl rfl fun _ _ => ?_ | refine g_make rfl (by omega) (by omega) fun _ _ => ?_)
      rw [show (decide ((askedL u k).1 = (askedL u k).1) && decide ((askedL u k).2 = (askedL u k).2)) = true by simp]
      repeat (first | refine g_op rfl ?_ | refine g_then ?_ | refine g_nil ?_ | refine g_region ?_ | refine g_seq ?_ | refine g_opS rfl ?_ | refine g_open ?_ | refine g_pass rfl ?_ | refine g_store ?_ | refine g_box rfl fun _ _ => ?_ | refine g_alloc rfl fun _ _ => ?_ | refine g_allocS rfl fun _ _ => ?_ | refine g_storeAgg ?_ | refine g_inBlock ?_ | refine g_block ?_ | refine g_skip ?_ | refine g_condT ?_ | refine g_condF ?_ | refine g_add rfl (by omega) (by omega) ?_ | refine g_sub rfl (by omega) (by omega) ?_ | refine g_exit ?_ | refine g_thenExit ?_ | refine g_exitHere ?_ | refine g_exitOn rfl ?_ | refine g_ret ?_ | refine g_thenRet ?_ | refine g_blockRet ?_ | refine g_passS rfl ?_ | refine g_pass0 ?_ | refine g_passU rfl ?_ | refine g_passUS rfl ?_ | refine g_storeV ?_ | refine g_build1 rfl rfl fun _ _ => ?_ | refine g_buildN rfl rfl fun _ _ => ?_ | refine g_make rfl (by omega) (by omega) fun _ _ => ?_)
      exact g_retV rfl rfl
    · exact absurd h1 (by simp [hbad])
  have hgood : (askedL u k).1 = 0 := by simpa using hbad
  obtain ⟨hch, has, i, X, rfl, hX, hok⟩ := asked_ok hgood
  have hil : i < fn := by rw [hfn]; exact (List.getElem?_eq_some_iff.1 hX).1
  have had : AddrIs fa fb fo := ⟨hfa (ne_of_get hX)⟩
  have hli : LtIs i fn := ⟨hil⟩
  obtain ⟨cs, hcs, bv, rfl, hpi, hri, hbv⟩ := hfel i X hX
  have hci : CellsIs w0 fb (fo + i * 4) _ := ⟨hcs⟩
  have hbv0 := hbv
  obtain ⟨ba, bn, bc, _, _, rfl, hbn, _⟩ := hbv
  have h24 := (hl.2 X (List.mem_of_getElem? hX)).1
  refine g_callE (val := fun x : Nat × (Nat → Prop) => .tuple #[.slice (some ⟨x.1, 0, none⟩) X.blocks.length X.blocks.length, .agg #[.int .i64 0, .int .i64 0]]) (E := fun x => [⟨x.2, fun w => SlAt w (.slice (some ⟨x.1, 0, none⟩) X.blocks.length X.blocks.length) 1 (gridL (Hangs X.blocks) X.blocks.length) RowV⟩]) (φ := fun _ => True) rfl (fun w hw =>
    (hang_ok u hl i hgood X hX hok _ _ w (hg0.keep keeps_global hw.chg) (hf0.keep keeps_func hw.chg) (hways.keep hw.chg)).mono fun v w' ⟨x, h1, h2, h3, h4⟩ => ⟨(x.1, _), h1, h2.grid h4 (by omega) h3, trivial⟩) fun x _ => ?_
  obtain ⟨ra, rp⟩ := x
  simp only [List.cons_append, List.nil_append]
  repeat (first | refine g_op rfl ?_ | refine g_then ?_ | refine g_nil ?_ | refine g_region ?_ | refine g_seq ?_ | refine g_opS rfl ?_ | refine g_open ?_ | refine g_pass rfl ?_ | refine g_store ?_ | refine g_box rfl fun _ _ => ?_ | refine g_alloc rfl fun _ _ => ?_ | refine g_allocS rfl fun _ _ => ?_ | refine g_storeAgg ?_ | refine g_inBlock ?_ | refine g_block ?_ | refine g_skip ?_ | refine g_condT ?_ | refine g_condF ?_ | refine g_add rfl (by omega) (by omega) ?_ | refine g_sub rfl (by omega) (by omega) ?_ | refine g_exit ?_ | refine g_thenExit ?_ | refine g_exitHere ?_ | refine g_exitOn rfl ?_ | refine g_ret ?_ | refine g_thenRet ?_ | refine g_blockRet ?_ | refine g_passS rfl ?_ | refine g_pass0 ?_ | refine g_passU rfl ?_ | refine g_passUS rfl ?_ | refine g_storeV ?_ | refine g_build1 rfl rfl fun _ _ => ?_ | refine g_buildN rfl rfl fun _ _ => ?_ | refine g_make rfl (by omega) (by omega) fun _ _ => ?_)
  rename_i p6 _
  refine g_callV rfl (fun w hw => asked_c u hl i _ _ w (hg0.keep keeps_global hw.chg) (hf0.keep keeps_func hw.chg) (hways.keep hw.chg)) ?_
  rw [has]
  repeat (first | refine g_op rfl ?_ | refine g_then ?_ | refine g_nil ?_ | refine g_region ?_ | refine g_seq ?_ | refine g_opS rfl ?_ | refine g_open ?_ | refine g_pass rfl ?_ | refine g_store ?_ | refine g_box rfl fun _ _ => ?_ | refine g_alloc rfl fun _ _ => ?_ | refine g_allocS rfl fun _ _ => ?_ | refine g_storeAgg ?_ | refine g_inBlock ?_ | refine g_block ?_ | refine g_skip ?_ | refine g_condT ?_ | refine g_condF ?_ | refine g_add rfl (by omega) (by omega) ?_ | refine g_sub rfl (by omega) (by omega) ?_ | refine g_exit ?_ | refine g_thenExit ?_ | refine g_exitHere ?_ | refine g_exitOn rfl ?_ | refine g_ret ?_ | refine g_thenRet ?_ | refine g_blockRet ?_ | refine g_passS rfl ?_ | refine g_pass0 ?_ | refine g_passU rfl ?_ | refine g_passUS rfl ?_ | refine g_storeV ?_ | refine g_build1 rfl rfl fun _ _ => ?_ | refine g_buildN rfl rfl fun _ _ => ?_ | refine g_make rfl (by omega) (by omega) fun _ _ => ?_)
  rename_i p7 _
  refine g_callE (val := fun x : Nat × (Nat → Prop) => .slice (some ⟨x.1, 0, none⟩) X.blocks.length X.blocks.length) (E := fun x => [⟨x.2, fun w => SlAt w (.slice (some ⟨x.1, 0, none⟩) X.blocks.length X.blocks.length) 1 (gridL (Hangs X.blocks) X.blocks.length) RowV⟩]) (φ := fun _ => True) rfl (fun w hw =>
    (refHang_c _ _ _ X.blocks _ w (hbv0.keep keeps_block hw.chg) (by omega) hok).mono fun v w' ⟨x, h1, h2, h3, h4⟩ => ⟨(x.1, _), h1, h2.grid h4 (by omega) h3, trivial⟩) fun y _ => ?_
  obtain ⟨sa, sp⟩ := y
  simp only [List.cons_append, List.nil_append]
  refine g_open ?_
  refine g_callV rfl (fun w hw => rows_c _ _ (gridL (Hangs X.blocks) X.blocks.length) (gridL (Hangs X.blocks) X.blocks.length) w ?_ ?_) ?_
  · exact hw.get (k := 3) rfl
  · exact hw.get (k := 0) rfl
  rw [show decide (gridL (Hangs X.blocks) X.blocks.length = gridL (Hangs X.blocks) X.blocks.length) = true by simp]
  try simp only [decide_true, Bool.and_self]
  repeat (first | refine g_op rfl ?_ | refine g_then ?_ | refine g_nil ?_ | refine g_region ?_ | refine g_seq ?_ | refine g_opS rfl ?_ | refine g_open ?_ | refine g_pass rfl ?_ | refine g_store ?_ | refine g_box rfl fun _ _ => ?_ | refine g_alloc rfl fun _ _ => ?_ | refine g_allocS rfl fun _ _ => ?_ | refine g_storeAgg ?_ | refine g_inBlock ?_ | refine g_block ?_ | refine g_skip ?_ | refine g_condT ?_ | refine g_condF ?_ | refine g_add rfl (by omega) (by omega) ?_ | refine g_sub rfl (by omega) (by omega) ?_ | refine g_exit ?_ | refine g_thenExit ?_ | refine g_exitHere ?_ | refine g_exitOn rfl ?_ | refine g_ret ?_ | refine g_thenRet ?_ | refine g_blockRet ?_ | refine g_passS rfl ?_ | refine g_pass0 ?_ | refine g_passU rfl ?_ | refine g_passUS rfl ?_ | refine g_storeV ?_ | refine g_build1 rfl rfl fun _ _ => ?_ | refine g_buildN rfl rfl fun _ _ => ?_ | refine g_make rfl (by omega) (by omega) fun _ _ => ?_)
  exact g_retV rfl rfl
end Go.Proofs.YtebajiafdkokjaaDoor
