/- Texts joined: RunDo Means ZeroP ZeroQ RowsB InK. -/
import Derived.Test.YtbmnkjaelfjlhaaDoorGE
import Derived.Test.YtbmnkjaelfjlhaaDoorGI
import Derived.Test.YtbmnkjaelfjlhaaDoorGJ
import Derived.Test.YtbmnkjaelfjlhaaDoorGL
import Derived.Test.YtbmnkjaelfjlhaaDoorGN
import Derived.Test.YtbmnkjaelfjlhaaDoorHF
import Derived.Test.YtbmnkjaelfjlhaaDoorHJ
/- run.Do: what it returns. -/
namespace Go.Proofs.YtbmnkjaelfjlhaaDoor
open Go Go.RowKit
attribute [local irreducible] wpListIn Code.wpIn Exit.then Exit.inBlock bodyPost wpQuiet wpAnyIn wpAnyH bodyPostM oneH
set_option maxHeartbeats 4000000

/-! ### What a run tells is in bounds -/
theorem step_finO {u : LUnit} {s : Mac} {f : Fin} (he : stepM u s = .inr f) : f.out = s.out := by
  rw [stepM_eq] at he
  split at he
  · unfold endM at he
    split at he
    · cases he
    split at he
    · cases he
    split at he
    · rw [← Sum.inr.inj he]; rfl
    · cases he
  · unfold insM at he
    simp only at he
    repeat' (split at he)
    all_goals first
      | (cases he; done)
      | (rw [← Sum.inr.inj he] <;> rfl)
theorem run_out {u : LUnit} (hu : UnitFit u) : ∀ (n : Nat) (s : Mac), MacOk u (s.steps + 1) s → (runM u n s).out.length ≤ 200 ∧ ∀ x ∈ (runM u n s).out, inI x
  | 0, s, h => h.out
  | n + 1, s, h => by
    rw [runM]
    cases he : stepM u s with
    | inl s' => exact run_out hu n s' (step_ok hu h he).1
    | inr f => simp only; rw [step_finO he]; exact h.out
theorem result_out {u : LUnit} (hu : UnitFit u) (hs : StartOk u) {inp : List Int} (hin : ∀ x ∈ inp, inI x) (fuel : Nat) : (resultM u inp fuel).out.length ≤ 200 ∧ ∀ x ∈ (resultM u inp fuel).out, inI x :=
  run_out hu fuel (startM u inp) (start_ok hu hs hin)

theorem do_bad (u : LUnit) (hl : light u) (g fs iv : Value) (inp : List Int) (fuel : Int) (hbad : (countsE u inp.length fuel).1 ≠ 0) (w0 : World) (hg : SlAt w0 g 3 u.globals GlobalV) (hf : SlAt w0 fs 4 u.funcs FuncV) (hin : SlAt w0 iv 1 inp IntV) (hways : CellsAt w0 0 0 waysC) :
    RetV Tryd.prog 23 [.agg #[g, fs], iv, .int .i64 fuel] w0 (.tuple #[.agg #[.int .i64 0, .int .i64 0, .slice none 0 0, .int .i64 0], .agg #[.int .i64 (countsE u inp.length fuel).1, .int .i64 (countsE u inp.length fuel).2]]) := by
  have hg0 := hg
  have hf0 := hf
  have hin0 := hin
  obtain ⟨ga, gn, gc, gb, go, rfl, _⟩ := hg
  obtain ⟨fa, fn, fc, fb, fo, rfl, _⟩ := hf
  obtain ⟨ia, il, ic, ib, io, rfl, hil, _⟩ := hin
  refine ret_enter Tryd.func23 rfl Tryd.ntmps23 rfl (Wd.nil NoS w0) ?_
  repeat (first | refine g_op rfl ?_ | refine g_then ?_ | refine g_nil ?_ | refine g_region ?_ | refine g_seq ?_ | refine g_opS rfl ?_ | refine g_open ?_ | refine g_pass rfl ?_ | refine g_store ?_ | refine g_box rfl fun _ _ => ?_ | refine g_alloc rfl fun _ _ => ?_ | refine g_allocS rfl fun _ _ => ?_ | refine g_storeAgg ?_ | refine g_inBlock ?_ | refine g_block ?_ | refine g_skip ?_ | refine g_condT ?_ | refine g_condF ?_ | refine g_add rfl (by omega) (by omega) ?_ | refine g_sub rfl (by omega) (by omega) ?_ | refine g_exit ?_ | refine g_thenExit ?_ | refine g_exitHere ?_ | refine g_exitOn rfl ?_ | refine g_ret ?_ | refine g_thenRet ?_ | refine g_blockRet ?_ | refine g_passS rfl ?_ | refine g_pass0 ?_ | refine g_passU rfl ?_ | refine g_passUS rfl ?_ | refine g_storeV ?_ | refine g_build1 rfl rfl fun _ _ => ?_ | refine g_buildN rfl rfl fun _ _ => ?_ | refine g_make rfl (by omega) (by omega) fun _ _ => ?_)
  refine g_callV rfl (fun w hw => counts_bad u hl _ _ _ inp fuel hbad w (hg0.keep keeps_global hw.chg) (hf0.keep keeps_func hw.chg) (hin0.keep keeps_int hw.chg) (hways.keep hw.chg)) ?_
  repeat (first | refine g_op rfl ?_ | refine g_then ?_ | refine g_nil ?_ | refine g_region ?_ | refine g_seq ?_ | refine g_opS rfl ?_ | refine g_open ?_ | refine g_pass rfl ?_ | refine g_store ?_ | refine g_box rfl fun _ _ => ?_ | refine g_alloc rfl fun _ _ => ?_ | refine g_allocS rfl fun _ _ => ?_ | refine g_storeAgg ?_ | refine g_inBlock ?_ | refine g_block ?_ | refine g_skip ?_ | refine g_condT ?_ | refine g_condF ?_ | refine g_add rfl (by omega) (by omega) ?_ | refine g_sub rfl (by omega) (by omega) ?_ | refine g_exit ?_ | refine g_thenExit ?_ | refine g_exitHere ?_ | refine g_exitOn rfl ?_ | refine g_ret ?_ | refine g_thenRet ?_ | refine g_blockRet ?_ | refine g_passS rfl ?_ | refine g_pass0 ?_ | refine g_passU rfl ?_ | refine g_passUS rfl ?_ | refine g_storeV ?_ | refine g_build1 rfl rfl fun _ _ => ?_ | refine g_buildN rfl rfl fun _ _ => ?_ | refine g_make rfl (by omega) (by omega) fun _ _ => ?_)
  rename_i p3 _ p6 _ p7 _ p9 _ p10 _
  refine g_fix (L' := [(6, .pointer (some ⟨p6, 0, none⟩)), (7, .pointer (some ⟨p7, 0, none⟩)), (9, .pointer (some ⟨p9, 0, none⟩)), (10, .pointer (some ⟨p10, 0, none⟩))]) (by repeat (first | exact trivial | refine ⟨rfl, ?_⟩)) (List.Sublist.refl _) ?_
  refine g_drawX [Ent.box p10 [.int .i64 (countsE u inp.length fuel).1, .int .i64 (countsE u inp.length fuel).2] 28, Ent.box p9 [.int .i64 0, .int .i64 0, .slice none 0 0, .int .i64 0] 52] (fun _ : Unit => True) (fun _ => [(6, .pointer (some ⟨p6, 0, none⟩)), (7, .pointer (some ⟨p7, 0, none⟩))]) (fun _ => [Ent.box p7 [.int .i64 (countsE u inp.length fuel).1, .int .i64 (countsE u inp.length fuel).2] 28, Ent.box p6 [.int .i64 0, .int .i64 0, .slice none 0 0, .int .i64 0] 52]) mixed (List.Sublist.cons_cons _ (List.Sublist.cons_cons _ (List.nil_sublist _))) ?_ fun _ _ => ?_
  · skip
    (first | refine h_take 0 rfl (by decide +kernel) (List.Sublist.cons_cons _ (List.Sublist.cons_cons _ (List.nil_sublist _))) ?_ | refine h_takeG 0 rfl (by decide +kernel) (List.Sublist.cons_cons _ (List.Sublist.cons_cons _ (List.nil_sublist _))) ?_ | refine h_takeP 0 rfl (by decide +kernel) (List.Sublist.cons_cons _ (List.Sublist.cons_cons _ (List.nil_sublist _))) ?_)
    (first | refine h_take 1 rfl (by decide +kernel) (List.Sublist.cons_cons _ (List.Sublist.cons_cons _ (List.nil_sublist _))) ?_ | refine h_takeG 1 rfl (by decide +kernel) (List.Sublist.cons_cons _ (List.Sublist.cons_cons _ (List.nil_sublist _))) ?_ | refine h_takeP 1 rfl (by decide +kernel) (List.Sublist.cons_cons _ (List.Sublist.cons_cons _ (List.nil_sublist _))) ?_)
    refine h_storeAgg 2 (by decide +kernel) (List.Sublist.cons_cons _ (List.Sublist.cons_cons _ (List.nil_sublist _))) ?_
    refine h_storeAgg 3 (by decide +kernel) (List.Sublist.cons_cons _ (List.Sublist.cons_cons _ (List.nil_sublist _))) ?_
    refine h_end (by decide +kernel) ?_
    exact g_mem () trivial (by repeat (first | exact trivial | refine ⟨rfl, ?_⟩)) (by simp)
  repeat (first | refine g_op rfl ?_ | refine g_then ?_ | refine g_nil ?_ | refine g_region ?_ | refine g_seq ?_ | refine g_opS rfl ?_ | refine g_open ?_ | refine g_pass rfl ?_ | refine g_store ?_ | refine g_box rfl fun _ _ => ?_ | refine g_alloc rfl fun _ _ => ?_ | refine g_allocS rfl fun _ _ => ?_ | refine g_storeAgg ?_ | refine g_inBlock ?_ | refine g_block ?_ | refine g_skip ?_ | refine g_condT ?_ | refine g_condF ?_ | refine g_add rfl (by omega) (by omega) ?_ | refine g_sub rfl (by omega) (by omega) ?_ | refine g_exit ?_ | refine g_thenExit ?_ | refine g_exitHere ?_ | refine g_exitOn rfl ?_ | refine g_ret ?_ | refine g_thenRet ?_ | refine g_blockRet ?_ | refine g_passS rfl ?_ | refine g_pass0 ?_ | refine g_passU rfl ?_ | refine g_passUS rfl ?_ | refine g_storeV ?_ | refine g_build1 rfl rfl fun _ _ => ?_ | refine g_buildN rfl rfl fun _ _ => ?_ | refine g_make rfl (by omega) (by omega) fun _ _ => ?_)
  exact g_retCC rfl fun w' hw' => ⟨rfl, hw'.chg⟩
theorem do_ok (u : LUnit) (hl : light u) (g fs iv : Value) (inp : List Int) (fuel : Nat) (hgood : (countsE u inp.length fuel).1 = 0) (w0 : World) (hg : SlAt w0 g 3 u.globals GlobalV) (hf : SlAt w0 fs 4 u.funcs FuncV) (hin : SlAt w0 iv 1 inp IntV) (hways : CellsAt w0 0 0 waysC) :
    Ret Tryd.prog 23 [.agg #[g, fs], iv, .int .i64 fuel] w0 fun v w' => ∃ x : Option Addr × Nat × (Nat → Prop),
      v = .tuple #[.agg #[.int .i64 (resultM u inp fuel).state, .int .i64 (resultM u inp fuel).value, .slice x.1 (resultM u inp fuel).out.length x.2.1, .int .i64 (resultM u inp fuel).steps], .agg #[.int .i64 0, .int .i64 0]] ∧
      Wd NoS w0 [⟨x.2.2, fun w => SlAt w (.slice x.1 (resultM u inp fuel).out.length x.2.1) 1 (resultM u inp fuel).out IntV⟩] w' ∧ True := by
  obtain ⟨h0, hil', k, hk, hk'⟩ := countsE_zero hgood
  have hkf : fuel = k := by omega
  have hu := unit_fit hl h0 (nums_of hf)
  have hs := check_start h0 (gnums_of hg)
  have hini : ∀ x ∈ inp, inI x := fun x hx => by obtain ⟨_, _, h9⟩ := hin.el hx; exact h9
  have hout := result_out hu hs hini fuel
  have hg0 := hg
  have hf0 := hf
  have hin0 := hin
  obtain ⟨ga, gn, gc, gb, go, rfl, _⟩ := hg
  obtain ⟨fa, fn, fc, fb, fo, rfl, _⟩ := hf
  obtain ⟨ia, il, ic, ib, io, rfl, hil, _⟩ := hin
  refine ret_enter Tryd.func23 rfl Tryd.ntmps23 rfl (Wd.nil NoS w0) ?_
  repeat (first | refine g_op rfl ?_ | refine g_then ?_ | refine g_nil ?_ | refine g_region ?_ | refine g_seq ?_ | refine g_opS rfl ?_ | refine g_open ?_ | refine g_pass rfl ?_ | refine g_store ?_ | refine g_box rfl fun _ _ => ?_ | refine g_alloc rfl fun _ _ => ?_ | refine g_allocS rfl fun _ _ => ?_ | refine g_storeAgg ?_ | refine g_inBlock ?_ | refine g_block ?_ | refine g_skip ?_ | refine g_condT ?_ | refine g_condF ?_ | refine g_add rfl (by omega) (by omega) ?_ | refine g_sub rfl (by omega) (by omega) ?_ | refine g_exit ?_ | refine g_thenExit ?_ | refine g_exitHere ?_ | refine g_exitOn rfl ?_ | refine g_ret ?_ | refine g_thenRet ?_ | refine g_blockRet ?_ | refine g_passS rfl ?_ | refine g_pass0 ?_ | refine g_passU rfl ?_ | refine g_passUS rfl ?_ | refine g_storeV ?_ | refine g_build1 rfl rfl fun _ _ => ?_ | refine g_buildN rfl rfl fun _ _ => ?_ | refine g_make rfl (by omega) (by omega) fun _ _ => ?_)
  refine g_callE (val := fun m : MacV => .tuple #[.slice m.ca m.cs.length m.cc, .agg #[.int .i64 m.state, .int .i64 m.value, .slice m.oa m.out.length m.oc, .int .i64 m.steps], .agg #[.int .i64 0, .int .i64 0]]) (E := fun m => [outE m]) (φ := fun m => FinRep m (resultM u inp fuel)) rfl (fun w hw =>
    (counts_c u hl h0 hs hu _ _ _ inp fuel (by omega) hil' w (hg0.keep keeps_global hw.chg) (hf0.keep keeps_func hw.chg) (hin0.keep keeps_int hw.chg) (hways.keep hw.chg)).mono fun v w' ⟨m, h1, h2, h3⟩ => ⟨m, h1, h2.sub (List.Sublist.cons_cons _ (List.nil_sublist _)), h3⟩) fun m hm => ?_
  simp only [List.cons_append, List.nil_append]
  repeat (first | refine g_op rfl ?_ | refine g_then ?_ | refine g_nil ?_ | refine g_region ?_ | refine g_seq ?_ | refine g_opS rfl ?_ | refine g_open ?_ | refine g_pass rfl ?_ | refine g_store ?_ | refine g_box rfl fun _ _ => ?_ | refine g_alloc rfl fun _ _ => ?_ | refine g_allocS rfl fun _ _ => ?_ | refine g_storeAgg ?_ | refine g_inBlock ?_ | refine g_block ?_ | refine g_skip ?_ | refine g_condT ?_ | refine g_condF ?_ | refine g_add rfl (by omega) (by omega) ?_ | refine g_sub rfl (by omega) (by omega) ?_ | refine g_exit ?_ | refine g_thenExit ?_ | refine g_exitHere ?_ | refine g_exitOn rfl ?_ | refine g_ret ?_ | refine g_thenRet ?_ | refine g_blockRet ?_ | refine g_passS rfl ?_ | refine g_pass0 ?_ | refine g_passU rfl ?_ | refine g_passUS rfl ?_ | refine g_storeV ?_ | refine g_build1 rfl rfl fun _ _ => ?_ | refine g_buildN rfl rfl fun _ _ => ?_ | refine g_make rfl (by omega) (by omega) fun _ _ => ?_)
  rename_i p3 _ p6 _ p7 _ p9 _ p10 _
  refine g_fix (L' := [(6, .pointer (some ⟨p6, 0, none⟩)), (7, .pointer (some ⟨p7, 0, none⟩)), (9, .pointer (some ⟨p9, 0, none⟩)), (10, .pointer (some ⟨p10, 0, none⟩))]) (by repeat (first | exact trivial | refine ⟨rfl, ?_⟩)) (List.Sublist.refl _) ?_
  refine g_drawX [Ent.box p10 [.int .i64 0, .int .i64 0] 28, Ent.box p9 [.int .i64 m.state, .int .i64 m.value, .slice m.oa m.out.length m.oc, .int .i64 m.steps] 52] (fun _ : Unit => True) (fun _ => [(6, .pointer (some ⟨p6, 0, none⟩)), (7, .pointer (some ⟨p7, 0, none⟩))]) (fun _ => [outE m, Ent.box p7 [.int .i64 0, .int .i64 0] 28, Ent.box p6 [.int .i64 m.state, .int .i64 m.value, .slice m.oa m.out.length m.oc, .int .i64 m.steps] 52]) mixed (List.Sublist.cons_cons _ (List.Sublist.cons_cons _ (List.nil_sublist _))) ?_ fun _ _ => ?_
  · skip
    (first | refine h_take 0 rfl (by decide +kernel) (List.Sublist.cons_cons _ (List.Sublist.cons_cons _ (List.nil_sublist _))) ?_ | refine h_takeG 0 rfl (by decide +kernel) (List.Sublist.cons_cons _ (List.Sublist.cons_cons _ (List.nil_sublist _))) ?_ | refine h_takeP 0 rfl (by decide +kernel) (List.Sublist.cons_cons _ (List.Sublist.cons_cons _ (List.nil_sublist _))) ?_)
    (first | refine h_take 1 rfl (by decide +kernel) (List.Sublist.cons_cons _ (List.Sublist.cons_cons _ (List.nil_sublist _))) ?_ | refine h_takeG 1 rfl (by decide +kernel) (List.Sublist.cons_cons _ (List.Sublist.cons_cons _ (List.nil_sublist _))) ?_ | refine h_takeP 1 rfl (by decide +kernel) (List.Sublist.cons_cons _ (List.Sublist.cons_cons _ (List.nil_sublist _))) ?_)
    refine h_storeAgg 2 (by decide +kernel) (List.Sublist.cons_cons _ (List.Sublist.cons_cons _ (List.nil_sublist _))) ?_
    refine h_storeAgg 3 (by decide +kernel) (List.Sublist.cons_cons _ (List.Sublist.cons_cons _ (List.nil_sublist _))) ?_
    refine h_end (by decide +kernel) ?_
    exact g_mem () trivial (by repeat (first | exact trivial | refine ⟨rfl, ?_⟩)) (by simp)
  repeat (first | refine g_op rfl ?_ | refine g_then ?_ | refine g_nil ?_ | refine g_region ?_ | refine g_seq ?_ | refine g_opS rfl ?_ | refine g_open ?_ | refine g_pass rfl ?_ | refine g_store ?_ | refine g_box rfl fun _ _ => ?_ | refine g_alloc rfl fun _ _ => ?_ | refine g_allocS rfl fun _ _ => ?_ | refine g_storeAgg ?_ | refine g_inBlock ?_ | refine g_block ?_ | refine g_skip ?_ | refine g_condT ?_ | refine g_condF ?_ | refine g_add rfl (by omega) (by omega) ?_ | refine g_sub rfl (by omega) (by omega) ?_ | refine g_exit ?_ | refine g_thenExit ?_ | refine g_exitHere ?_ | refine g_exitOn rfl ?_ | refine g_ret ?_ | refine g_thenRet ?_ | refine g_blockRet ?_ | refine g_passS rfl ?_ | refine g_pass0 ?_ | refine g_passU rfl ?_ | refine g_passUS rfl ?_ | refine g_storeV ?_ | refine g_build1 rfl rfl fun _ _ => ?_ | refine g_buildN rfl rfl fun _ _ => ?_ | refine g_make rfl (by omega) (by omega) fun _ _ => ?_)
  refine g_retCC rfl fun w' hw' => ⟨(m.oa, m.oc, fps [outE m]), ?_, ?_, trivial⟩
  · rw [← hm.state, ← hm.value, ← hm.out, ← hm.steps]
  · have h1 : Wd NoS w0 ([outE m] ++ []) w' := hw'.sub (List.Sublist.cons_cons _ (List.nil_sublist _))
    have h2 := h1.pack (fun w => SlAt w (.slice m.oa m.out.length m.oc) 1 m.out IntV) fun w2 hw2 => ?_
    · rw [← hm.out]; exact h2
    · refine hw2.slAt (k := 0) rfl rfl (by rw [hm.out]; omega) fun i x hx => ⟨[.int .i64 x], fun j v hj => ?_, rfl, hout.2 x (by rw [← hm.out]; exact List.mem_of_getElem? hx)⟩
      match j, hj with
      | 0, hj => simpa [hx] using hj
end Go.Proofs.YtbmnkjaelfjlhaaDoor


/- turnerysame.Comes, turnerymeans.Same: what they return. -/
namespace Go.Proofs.YtbmnkjaelfjlhaaDoor
open Go Go.RowKit
attribute [local irreducible] wpListIn Code.wpIn Exit.then Exit.inBlock bodyPost wpQuiet wpAnyIn wpAnyH bodyPostM oneH
set_option maxHeartbeats 4000000

theorem comes_c (s v t1 t2 : Int) (a1 a2 : Option Addr) (c1 c2 : Nat) (l : List Int) (w0 : World) (h1 : SlAt w0 (.slice a1 l.length c1) 1 l IntV) (h2 : SlAt w0 (.slice a2 l.length c2) 1 l IntV) :
    RetV Tryd.prog 24 [.agg #[.int .i64 s, .int .i64 v, .slice a1 l.length c1, .int .i64 t1], .agg #[.int .i64 s, .int .i64 v, .slice a2 l.length c2, .int .i64 t2]] w0 (.bool true) := by
  refine ret_enter Tryd.func24 rfl Tryd.ntmps24 rfl (Wd.nil NoS w0) ?_
  repeat (first | refine g_op rfl ?_ | refine g_then ?_ | refine g_nil ?_ | refine g_region ?_ | refine g_seq ?_ | refine g_opS rfl ?_ | refine g_open ?_ | refine g_pass rfl ?_ | refine g_store ?_ | refine g_box rfl fun _ _ => ?_ | refine g_alloc rfl fun _ _ => ?_ | refine g_allocS rfl fun _ _ => ?_ | refine g_storeAgg ?_ | refine g_inBlock ?_ | refine g_block ?_ | refine g_skip ?_ | refine g_condT ?_ | refine g_condF ?_ | refine g_add rfl (by omega) (by omega) ?_ | refine g_sub rfl (by omega) (by omega) ?_ | refine g_exit ?_ | refine g_thenExit ?_ | refine g_exitHere ?_ | refine g_exitOn rfl ?_ | refine g_ret ?_ | refine g_thenRet ?_ | refine g_blockRet ?_ | refine g_passS rfl ?_ | refine g_pass0 ?_ | refine g_passU rfl ?_ | refine g_passUS rfl ?_ | refine g_storeV ?_ | refine g_build1 rfl rfl fun _ _ => ?_ | refine g_buildN rfl rfl fun _ _ => ?_ | refine g_make rfl (by omega) (by omega) fun _ _ => ?_)
  rw [show decide (s = s) = true by simp]
  repeat (first | refine g_op rfl ?_ | refine g_then ?_ | refine g_nil ?_ | refine g_region ?_ | refine g_seq ?_ | refine g_opS rfl ?_ | refine g_open ?_ | refine g_pass rfl ?_ | refine g_store ?_ | refine g_box rfl fun _ _ => ?_ | refine g_alloc rfl fun _ _ => ?_ | refine g_allocS rfl fun _ _ => ?_ | refine g_storeAgg ?_ | refine g_inBlock ?_ | refine g_block ?_ | refine g_skip ?_ | refine g_condT ?_ | refine g_condF ?_ | refine g_add rfl (by omega) (by omega) ?_ | refine g_sub rfl (by omega) (by omega) ?_ | refine g_exit ?_ | refine g_thenExit ?_ | refine g_exitHere ?_ | refine g_exitOn rfl ?_ | refine g_ret ?_ | refine g_thenRet ?_ | refine g_blockRet ?_ | refine g_passS rfl ?_ | refine g_pass0 ?_ | refine g_passU rfl ?_ | refine g_passUS rfl ?_ | refine g_storeV ?_ | refine g_build1 rfl rfl fun _ _ => ?_ | refine g_buildN rfl rfl fun _ _ => ?_ | refine g_make rfl (by omega) (by omega) fun _ _ => ?_)
  rw [show decide (v = v) = true by simp]
  repeat (first | refine g_op rfl ?_ | refine g_then ?_ | refine g_nil ?_ | refine g_region ?_ | refine g_seq ?_ | refine g_opS rfl ?_ | refine g_open ?_ | refine g_pass rfl ?_ | refine g_store ?_ | refine g_box rfl fun _ _ => ?_ | refine g_alloc rfl fun _ _ => ?_ | refine g_allocS rfl fun _ _ => ?_ | refine g_storeAgg ?_ | refine g_inBlock ?_ | refine g_block ?_ | refine g_skip ?_ | refine g_condT ?_ | refine g_condF ?_ | refine g_add rfl (by omega) (by omega) ?_ | refine g_sub rfl (by omega) (by omega) ?_ | refine g_exit ?_ | refine g_thenExit ?_ | refine g_exitHere ?_ | refine g_exitOn rfl ?_ | refine g_ret ?_ | refine g_thenRet ?_ | refine g_blockRet ?_ | refine g_passS rfl ?_ | refine g_pass0 ?_ | refine g_passU rfl ?_ | refine g_passUS rfl ?_ | refine g_storeV ?_ | refine g_build1 rfl rfl fun _ _ => ?_ | refine g_buildN rfl rfl fun _ _ => ?_ | refine g_make rfl (by omega) (by omega) fun _ _ => ?_)
  refine g_callV rfl (fun w hw => ints_c _ _ l l w (h1.keep (fun _ _ _ _ _ h => h) hw.chg) (h2.keep (fun _ _ _ _ _ h => h) hw.chg)) ?_
  rw [show decide (l = l) = true by simp]
  repeat (first | refine g_op rfl ?_ | refine g_then ?_ | refine g_nil ?_ | refine g_region ?_ | refine g_seq ?_ | refine g_opS rfl ?_ | refine g_open ?_ | refine g_pass rfl ?_ | refine g_store ?_ | refine g_box rfl fun _ _ => ?_ | refine g_alloc rfl fun _ _ => ?_ | refine g_allocS rfl fun _ _ => ?_ | refine g_storeAgg ?_ | refine g_inBlock ?_ | refine g_block ?_ | refine g_skip ?_ | refine g_condT ?_ | refine g_condF ?_ | refine g_add rfl (by omega) (by omega) ?_ | refine g_sub rfl (by omega) (by omega) ?_ | refine g_exit ?_ | refine g_thenExit ?_ | refine g_exitHere ?_ | refine g_exitOn rfl ?_ | refine g_ret ?_ | refine g_thenRet ?_ | refine g_blockRet ?_ | refine g_passS rfl ?_ | refine g_pass0 ?_ | refine g_passU rfl ?_ | refine g_passUS rfl ?_ | refine g_storeV ?_ | refine g_build1 rfl rfl fun _ _ => ?_ | refine g_buildN rfl rfl fun _ _ => ?_ | refine g_make rfl (by omega) (by omega) fun _ _ => ?_)
  exact g_retV rfl rfl
/-- the second unit comes to what the first one comes to -/
structure Comes (a b : LUnit) (inp : List Int) (f k : Nat) : Prop where
  ok : (countsE b inp.length k).1 = 0
  state : (resultM b inp k).state = (resultM a inp f).state
  value : (resultM b inp k).value = (resultM a inp f).value
  out : (resultM b inp k).out = (resultM a inp f).out
theorem same_c (a b : LUnit) (hla : light a) (hlb : light b) (ga fa gb fb iv : Value) (inp : List Int) (fuel : Int) (w0 : World) (hga : SlAt w0 ga 3 a.globals GlobalV) (hfa : SlAt w0 fa 4 a.funcs FuncV) (hgb : SlAt w0 gb 3 b.globals GlobalV) (hfb : SlAt w0 fb 4 b.funcs FuncV) (hin : SlAt w0 iv 1 inp IntV) (hways : CellsAt w0 0 0 waysC)
    (hsame : ∀ f : Nat, f ≤ 2000 → (countsE a inp.length f).1 = 0 → (resultM a inp f).state ≠ 1 → Comes a b inp f (20 * f + 200)) :
    RetV Tryd.prog 22 [.agg #[ga, fa], .agg #[gb, fb], iv, .int .i64 fuel] w0 (.bool true) := by
  have hga0 := hga
  have hfa0 := hfa
  have hgb0 := hgb
  have hfb0 := hfb
  have hin0 := hin
  obtain ⟨ga1, gan, gac, _, _, rfl, _⟩ := hga
  obtain ⟨fa1, fan, fac, _, _, rfl, _⟩ := hfa
  obtain ⟨gb1, gbn, gbc, _, _, rfl, _⟩ := hgb
  obtain ⟨fb1, fbn, fbc, _, _, rfl, _⟩ := hfb
  obtain ⟨ia, il, ic, _, _, rfl, _⟩ := hin
  refine ret_enter Tryd.func22 rfl Tryd.ntmps22 rfl (Wd.nil NoS w0) ?_
  repeat (first | refine g_op rfl ?_ | refine g_then ?_ | refine g_nil ?_ | refine g_region ?_ | refine g_seq ?_ | refine g_opS rfl ?_ | refine g_open ?_ | refine g_pass rfl ?_ | refine g_store ?_ | refine g_box rfl fun _ _ => ?_ | refine g_alloc rfl fun _ _ => ?_ | refine g_allocS rfl fun _ _ => ?_ | refine g_storeAgg ?_ | refine g_inBlock ?_ | refine g_block ?_ | refine g_skip ?_ | refine g_condT ?_ | refine g_condF ?_ | refine g_add rfl (by omega) (by omega) ?_ | refine g_sub rfl (by omega) (by omega) ?_ | refine g_exit ?_ | refine g_thenExit ?_ | refine g_exitHere ?_ | refine g_exitOn rfl ?_ | refine g_ret ?_ | refine g_thenRet ?_ | refine g_blockRet ?_ | refine g_passS rfl ?_ | refine g_pass0 ?_ | refine g_passU rfl ?_ | refine g_passUS rfl ?_ | refine g_storeV ?_ | refine g_build1 rfl rfl fun _ _ => ?_ | refine g_buildN rfl rfl fun _ _ => ?_ | refine g_make rfl (by omega) (by omega) fun _ _ => ?_)
  by_cases h1 : fuel < 0
  · rw [show decide (fuel < 0) = true by simp [h1]]
    repeat (first | refine g_op rfl ?_ | refine g_then ?_ | refine g_nil ?_ | refine g_region ?_ | refine g_seq ?_ | refine g_opS rfl ?_ | refine g_open ?_ | refine g_pass rfl ?_ | refine g_store ?_ | refine g_box rfl fun _ _ => ?_ | refine g_alloc rfl fun _ _ => ?_ | refine g_allocS rfl fun _ _ => ?_ | refine g_storeAgg ?_ | refine g_inBlock ?_ | refine g_block ?_ | refine g_skip ?_ | refine g_condT ?_ | refine g_condF ?_ | refine g_add rfl (by omega) (by omega) ?_ | refine g_sub rfl (by omega) (by omega) ?_ | refine g_exit ?_ | refine g_thenExit ?_ | refine g_exitHere ?_ | refine g_exitOn rfl ?_ | refine g_ret ?_ | refine g_thenRet ?_ | refine g_blockRet ?_ | refine g_passS rfl ?_ | refine g_pass0 ?_ | refine g_passU rfl ?_ | refine g_passUS rfl ?_ | refine g_storeV ?_ | refine g_build1 rfl rfl fun _ _ => ?_ | refine g_buildN rfl rfl fun _ _ => ?_ | refine g_make rfl (by omega) (by omega) fun _ _ => ?_)
    exact g_retV rfl rfl
  rw [show decide (fuel < 0) = false by simp [h1]]
  repeat (first | refine g_op rfl ?_ | refine g_then ?_ | refine g_nil ?_ | refine g_region ?_ | refine g_seq ?_ | refine g_opS rfl ?_ | refine g_open ?_ | refine g_pass rfl ?_ | refine g_store ?_ | refine g_box rfl fun _ _ => ?_ | refine g_alloc rfl fun _ _ => ?_ | refine g_allocS rfl fun _ _ => ?_ | refine g_storeAgg ?_ | refine g_inBlock ?_ | refine g_block ?_ | refine g_skip ?_ | refine g_condT ?_ | refine g_condF ?_ | refine g_add rfl (by omega) (by omega) ?_ | refine g_sub rfl (by omega) (by omega) ?_ | refine g_exit ?_ | refine g_thenExit ?_ | refine g_exitHere ?_ | refine g_exitOn rfl ?_ | refine g_ret ?_ | refine g_thenRet ?_ | refine g_blockRet ?_ | refine g_passS rfl ?_ | refine g_pass0 ?_ | refine g_passU rfl ?_ | refine g_passUS rfl ?_ | refine g_storeV ?_ | refine g_build1 rfl rfl fun _ _ => ?_ | refine g_buildN rfl rfl fun _ _ => ?_ | refine g_make rfl (by omega) (by omega) fun _ _ => ?_)
  refine g_cond (fun h2 => ?_) (fun h2 => ?_)
  · repeat (first | refine g_op rfl ?_ | refine g_then ?_ | refine g_nil ?_ | refine g_region ?_ | refine g_seq ?_ | refine g_opS rfl ?_ | refine g_open ?_ | refine g_pass rfl ?_ | refine g_store ?_ | refine g_box rfl fun _ _ => ?_ | refine g_alloc rfl fun _ _ => ?_ | refine g_allocS rfl fun _ _ => ?_ | refine g_storeAgg ?_ | refine g_inBlock ?_ | refine g_block ?_ | refine g_skip ?_ | refine g_condT ?_ | refine g_condF ?_ | refine g_add rfl (by omega) (by omega) ?_ | refine g_sub rfl (by omega) (by omega) ?_ | refine g_exit ?_ | refine g_thenExit ?_ | refine g_exitHere ?_ | refine g_exitOn rfl ?_ | refine g_ret ?_ | refine g_thenRet ?_ | refine g_blockRet ?_ | refine g_passS rfl ?_ | refine g_pass0 ?_ | refine g_passU rfl ?_ | refine g_passUS rfl ?_ | refine g_storeV ?_ | refine g_build1 rfl rfl fun _ _ => ?_ | refine g_buildN rfl rfl fun _ _ => ?_ | refine g_make rfl (by omega) (by omega) fun _ _ => ?_)
    exact g_retV rfl rfl
  obtain ⟨f, rfl⟩ : ∃ f : Nat, fuel = f := ⟨fuel.toNat, by omega⟩
  have hf2 : f ≤ 2000 := by simp at h2; omega
  repeat (first | refine g_op rfl ?_ | refine g_then ?_ | refine g_nil ?_ | refine g_region ?_ | refine g_seq ?_ | refine g_opS rfl ?_ | refine g_open ?_ | refine g_pass rfl ?_ | refine g_store ?_ | refine g_box rfl fun _ _ => ?_ | refine g_alloc rfl fun _ _ => ?_ | refine g_allocS rfl fun _ _ => ?_ | refine g_storeAgg ?_ | refine g_inBlock ?_ | refine g_block ?_ | refine g_skip ?_ | refine g_condT ?_ | refine g_condF ?_ | refine g_add rfl (by omega) (by omega) ?_ | refine g_sub rfl (by omega) (by omega) ?_ | refine g_exit ?_ | refine g_thenExit ?_ | refine g_exitHere ?_ | refine g_exitOn rfl ?_ | refine g_ret ?_ | refine g_thenRet ?_ | refine g_blockRet ?_ | refine g_passS rfl ?_ | refine g_pass0 ?_ | refine g_passU rfl ?_ | refine g_passUS rfl ?_ | refine g_storeV ?_ | refine g_build1 rfl rfl fun _ _ => ?_ | refine g_buildN rfl rfl fun _ _ => ?_ | refine g_make rfl (by omega) (by omega) fun _ _ => ?_)
  by_cases hbad : (countsE a inp.length f).1 ≠ 0
  · refine g_callV rfl (fun w hw => do_bad a hla _ _ _ inp f hbad w (hga0.keep keeps_global hw.chg) (hfa0.keep keeps_func hw.chg) (hin0.keep keeps_int hw.chg) (hways.keep hw.chg)) ?_
    repeat (first | refine g_op rfl ?_ | refine g_then ?_ | refine g_nil ?_ | refine g_region ?_ | refine g_seq ?_ | refine g_opS rfl ?_ | refine g_open ?_ | refine g_pass rfl ?_ | refine g_store ?_ | refine g_box rfl fun _ _ => ?_ | refine g_alloc rfl fun _ _ => ?_ | refine g_allocS rfl fun _ _ => ?_ | refine g_storeAgg ?_ | refine g_inBlock ?_ | refine g_block ?_ | refine g_skip ?_ | refine g_condT ?_ | refine g_condF ?_ | refine g_add rfl (by omega) (by omega) ?_ | refine g_sub rfl (by omega) (by omega) ?_ | refine g_exit ?_ | refine g_thenExit ?_ | refine g_exitHere ?_ | refine g_exitOn rfl ?_ | refine g_ret ?_ | refine g_thenRet ?_ | refine g_blockRet ?_ | refine g_passS rfl ?_ | refine g_pass0 ?_ | refine g_passU rfl ?_ | refine g_passUS rfl ?_ | refine g_storeV ?_ | refine g_build1 rfl rfl fun _ _ => ?_ | refine g_buildN rfl rfl fun _ _ => ?_ | refine g_make rfl (by omega) (by omega) fun _ _ => ?_)
    refine g_cond (fun h2 => ?_) (fun h2 => ?_)
    · repeat (first | refine g_op rfl ?_ | refine g_then ?_ | refine g_nil ?_ | refine g_region ?_ | refine g_seq ?_ | refine g_opS rfl ?_ | refine g_open ?_ | refine g_pass rfl ?_ | refine g_store ?_ | refine g_box rfl fun _ _ => ?_ | refine g_alloc rfl fun _ _ => ?_ | refine g_allocS rfl fun _ _ => ?_ | refine g_storeAgg ?_ | refine g_inBlock ?_ | refine g_block ?_ | refine g_skip ?_ | refine g_condT ?_ | refine g_condF ?_ | refine g_add rfl (by omega) (by omega) ?_ | refine g_sub rfl (by omega) (by omega) ?_ | refine g_exit ?_ | refine g_thenExit ?_ | refine g_exitHere ?_ | refine g_exitOn rfl ?_ | refine g_ret ?_ | refine g_thenRet ?_ | refine g_blockRet ?_ | refine g_passS rfl ?_ | refine g_pass0 ?_ | refine g_passU rfl ?_ | refine g_passUS rfl ?_ | refine g_storeV ?_ | refine g_build1 rfl rfl fun _ _ => ?_ | refine g_buildN rfl rfl fun _ _ => ?_ | refine g_make rfl (by omega) (by omega) fun _ _ => ?_)
      exact g_retV rfl rfl
    · exact absurd h2 (by simp [hbad])
  have hgood : (countsE a inp.length f).1 = 0 := by simpa using hbad
  refine g_callE (val := fun x : Option Addr × Nat × (Nat → Prop) => .tuple #[.agg #[.int .i64 (resultM a inp f).state, .int .i64 (resultM a inp f).value, .slice x.1 (resultM a inp f).out.length x.2.1, .int .i64 (resultM a inp f).steps], .agg #[.int .i64 0, .int .i64 0]]) (E := fun x => [⟨x.2.2, fun w => SlAt w (.slice x.1 (resultM a inp f).out.length x.2.1) 1 (resultM a inp f).out IntV⟩]) (φ := fun _ => True) rfl (fun w hw => do_ok a hla _ _ _ inp f hgood w (hga0.keep keeps_global hw.chg) (hfa0.keep keeps_func hw.chg) (hin0.keep keeps_int hw.chg) (hways.keep hw.chg)) fun x _ => ?_
  obtain ⟨oa, oc, op⟩ := x
  simp only [List.cons_append, List.nil_append]
  repeat (first | refine g_op rfl ?_ | refine g_then ?_ | refine g_nil ?_ | refine g_region ?_ | refine g_seq ?_ | refine g_opS rfl ?_ | refine g_open ?_ | refine g_pass rfl ?_ | refine g_store ?_ | refine g_box rfl fun _ _ => ?_ | refine g_alloc rfl fun _ _ => ?_ | refine g_allocS rfl fun _ _ => ?_ | refine g_storeAgg ?_ | refine g_inBlock ?_ | refine g_block ?_ | refine g_skip ?_ | refine g_condT ?_ | refine g_condF ?_ | refine g_add rfl (by omega) (by omega) ?_ | refine g_sub rfl (by omega) (by omega) ?_ | refine g_exit ?_ | refine g_thenExit ?_ | refine g_exitHere ?_ | refine g_exitOn rfl ?_ | refine g_ret ?_ | refine g_thenRet ?_ | refine g_blockRet ?_ | refine g_passS rfl ?_ | refine g_pass0 ?_ | refine g_passU rfl ?_ | refine g_passUS rfl ?_ | refine g_storeV ?_ | refine g_build1 rfl rfl fun _ _ => ?_ | refine g_buildN rfl rfl fun _ _ => ?_ | refine g_make rfl (by omega) (by omega) fun _ _ => ?_)
  rw [show (!decide ((0 : Int) = 0)) = false by simp]
  repeat (first | refine g_op rfl ?_ | refine g_then ?_ | refine g_nil ?_ | refine g_region ?_ | refine g_seq ?_ | refine g_opS rfl ?_ | refine g_open ?_ | refine g_pass rfl ?_ | refine g_store ?_ | refine g_box rfl fun _ _ => ?_ | refine g_alloc rfl fun _ _ => ?_ | refine g_allocS rfl fun _ _ => ?_ | refine g_storeAgg ?_ | refine g_inBlock ?_ | refine g_block ?_ | refine g_skip ?_ | refine g_condT ?_ | refine g_condF ?_ | refine g_add rfl (by omega) (by omega) ?_ | refine g_sub rfl (by omega) (by omega) ?_ | refine g_exit ?_ | refine g_thenExit ?_ | refine g_exitHere ?_ | refine g_exitOn rfl ?_ | refine g_ret ?_ | refine g_thenRet ?_ | refine g_blockRet ?_ | refine g_passS rfl ?_ | refine g_pass0 ?_ | refine g_passU rfl ?_ | refine g_passUS rfl ?_ | refine g_storeV ?_ | refine g_build1 rfl rfl fun _ _ => ?_ | refine g_buildN rfl rfl fun _ _ => ?_ | refine g_make rfl (by omega) (by omega) fun _ _ => ?_)
  refine g_cond (fun h3 => ?_) (fun h3 => ?_)
  · repeat (first | refine g_op rfl ?_ | refine g_then ?_ | refine g_nil ?_ | refine g_region ?_ | refine g_seq ?_ | refine g_opS rfl ?_ | refine g_open ?_ | refine g_pass rfl ?_ | refine g_store ?_ | refine g_box rfl fun _ _ => ?_ | refine g_alloc rfl fun _ _ => ?_ | refine g_allocS rfl fun _ _ => ?_ | refine g_storeAgg ?_ | refine g_inBlock ?_ | refine g_block ?_ | refine g_skip ?_ | refine g_condT ?_ | refine g_condF ?_ | refine g_add rfl (by omega) (by omega) ?_ | refine g_sub rfl (by omega) (by omega) ?_ | refine g_exit ?_ | refine g_thenExit ?_ | refine g_exitHere ?_ | refine g_exitOn rfl ?_ | refine g_ret ?_ | refine g_thenRet ?_ | refine g_blockRet ?_ | refine g_passS rfl ?_ | refine g_pass0 ?_ | refine g_passU rfl ?_ | refine g_passUS rfl ?_ | refine g_storeV ?_ | refine g_build1 rfl rfl fun _ _ => ?_ | refine g_buildN rfl rfl fun _ _ => ?_ | refine g_make rfl (by omega) (by omega) fun _ _ => ?_)
    exact g_retV rfl rfl
  obtain ⟨h4, h5, h6, h7⟩ := hsame f hf2 hgood (by simpa using h3)
  repeat (first | refine g_op rfl ?_ | refine g_then ?_ | refine g_nil ?_ | refine g_region ?_ | refine g_seq ?_ | refine g_opS rfl ?_ | refine g_open ?_ | refine g_pass rfl ?_ | refine g_store ?_ | refine g_box rfl fun _ _ => ?_ | refine g_alloc rfl fun _ _ => ?_ | refine g_allocS rfl fun _ _ => ?_ | refine g_storeAgg ?_ | refine g_inBlock ?_ | refine g_block ?_ | refine g_skip ?_ | refine g_condT ?_ | refine g_condF ?_ | refine g_add rfl (by omega) (by omega) ?_ | refine g_sub rfl (by omega) (by omega) ?_ | refine g_exit ?_ | refine g_thenExit ?_ | refine g_exitHere ?_ | refine g_exitOn rfl ?_ | refine g_ret ?_ | refine g_thenRet ?_ | refine g_blockRet ?_ | refine g_passS rfl ?_ | refine g_pass0 ?_ | refine g_passU rfl ?_ | refine g_passUS rfl ?_ | refine g_storeV ?_ | refine g_build1 rfl rfl fun _ _ => ?_ | refine g_buildN rfl rfl fun _ _ => ?_ | refine g_make rfl (by omega) (by omega) fun _ _ => ?_)
  refine g_mul rfl (by omega) (by omega) ?_
  repeat (first | refine g_op rfl ?_ | refine g_then ?_ | refine g_nil ?_ | refine g_region ?_ | refine g_seq ?_ | refine g_opS rfl ?_ | refine g_open ?_ | refine g_pass rfl ?_ | refine g_store ?_ | refine g_box rfl fun _ _ => ?_ | refine g_alloc rfl fun _ _ => ?_ | refine g_allocS rfl fun _ _ => ?_ | refine g_storeAgg ?_ | refine g_inBlock ?_ | refine g_block ?_ | refine g_skip ?_ | refine g_condT ?_ | refine g_condF ?_ | refine g_add rfl (by omega) (by omega) ?_ | refine g_sub rfl (by omega) (by omega) ?_ | refine g_exit ?_ | refine g_thenExit ?_ | refine g_exitHere ?_ | refine g_exitOn rfl ?_ | refine g_ret ?_ | refine g_thenRet ?_ | refine g_blockRet ?_ | refine g_passS rfl ?_ | refine g_pass0 ?_ | refine g_passU rfl ?_ | refine g_passUS rfl ?_ | refine g_storeV ?_ | refine g_build1 rfl rfl fun _ _ => ?_ | refine g_buildN rfl rfl fun _ _ => ?_ | refine g_make rfl (by omega) (by omega) fun _ _ => ?_)
  rw [show (20 : Int) * (f : Int) + 200 = ((20 * f + 200 : Nat) : Int) by omega]
  refine g_callE (val := fun x : Option Addr × Nat × (Nat → Prop) => .tuple #[.agg #[.int .i64 (resultM b inp (20 * f + 200)).state, .int .i64 (resultM b inp (20 * f + 200)).value, .slice x.1 (resultM b inp (20 * f + 200)).out.length x.2.1, .int .i64 (resultM b inp (20 * f + 200)).steps], .agg #[.int .i64 0, .int .i64 0]]) (E := fun x => [⟨x.2.2, fun w => SlAt w (.slice x.1 (resultM b inp (20 * f + 200)).out.length x.2.1) 1 (resultM b inp (20 * f + 200)).out IntV⟩]) (φ := fun _ => True) rfl (fun w hw => do_ok b hlb _ _ _ inp _ h4 w (hgb0.keep keeps_global hw.chg) (hfb0.keep keeps_func hw.chg) (hin0.keep keeps_int hw.chg) (hways.keep hw.chg)) fun x _ => ?_
  obtain ⟨na, nc, np⟩ := x
  simp only [List.cons_append, List.nil_append]
  rw [h5, h6, h7]
  repeat (first | refine g_op rfl ?_ | refine g_then ?_ | refine g_nil ?_ | refine g_region ?_ | refine g_seq ?_ | refine g_opS rfl ?_ | refine g_open ?_ | refine g_pass rfl ?_ | refine g_store ?_ | refine g_box rfl fun _ _ => ?_ | refine g_alloc rfl fun _ _ => ?_ | refine g_allocS rfl fun _ _ => ?_ | refine g_storeAgg ?_ | refine g_inBlock ?_ | refine g_block ?_ | refine g_skip ?_ | refine g_condT ?_ | refine g_condF ?_ | refine g_add rfl (by omega) (by omega) ?_ | refine g_sub rfl (by omega) (by omega) ?_ | refine g_exit ?_ | refine g_thenExit ?_ | refine g_exitHere ?_ | refine g_exitOn rfl ?_ | refine g_ret ?_ | refine g_thenRet ?_ | refine g_blockRet ?_ | refine g_passS rfl ?_ | refine g_pass0 ?_ | refine g_passU rfl ?_ | refine g_passUS rfl ?_ | refine g_storeV ?_ | refine g_build1 rfl rfl fun _ _ => ?_ | refine g_buildN rfl rfl fun _ _ => ?_ | refine g_make rfl (by omega) (by omega) fun _ _ => ?_)
  rw [show decide ((0 : Int) = 0) = true by simp]
  repeat (first | refine g_op rfl ?_ | refine g_then ?_ | refine g_nil ?_ | refine g_region ?_ | refine g_seq ?_ | refine g_opS rfl ?_ | refine g_open ?_ | refine g_pass rfl ?_ | refine g_store ?_ | refine g_box rfl fun _ _ => ?_ | refine g_alloc rfl fun _ _ => ?_ | refine g_allocS rfl fun _ _ => ?_ | refine g_storeAgg ?_ | refine g_inBlock ?_ | refine g_block ?_ | refine g_skip ?_ | refine g_condT ?_ | refine g_condF ?_ | refine g_add rfl (by omega) (by omega) ?_ | refine g_sub rfl (by omega) (by omega) ?_ | refine g_exit ?_ | refine g_thenExit ?_ | refine g_exitHere ?_ | refine g_exitOn rfl ?_ | refine g_ret ?_ | refine g_thenRet ?_ | refine g_blockRet ?_ | refine g_passS rfl ?_ | refine g_pass0 ?_ | refine g_passU rfl ?_ | refine g_passUS rfl ?_ | refine g_storeV ?_ | refine g_build1 rfl rfl fun _ _ => ?_ | refine g_buildN rfl rfl fun _ _ => ?_ | refine g_make rfl (by omega) (by omega) fun _ _ => ?_)
  refine g_callV rfl (fun w hw => comes_c _ _ _ _ _ _ _ _ _ w ?_ ?_) ?_
  · exact hw.get (k := 5) rfl
  · exact hw.get (k := 2) rfl
  repeat (first | refine g_op rfl ?_ | refine g_then ?_ | refine g_nil ?_ | refine g_region ?_ | refine g_seq ?_ | refine g_opS rfl ?_ | refine g_open ?_ | refine g_pass rfl ?_ | refine g_store ?_ | refine g_box rfl fun _ _ => ?_ | refine g_alloc rfl fun _ _ => ?_ | refine g_allocS rfl fun _ _ => ?_ | refine g_storeAgg ?_ | refine g_inBlock ?_ | refine g_block ?_ | refine g_skip ?_ | refine g_condT ?_ | refine g_condF ?_ | refine g_add rfl (by omega) (by omega) ?_ | refine g_sub rfl (by omega) (by omega) ?_ | refine g_exit ?_ | refine g_thenExit ?_ | refine g_exitHere ?_ | refine g_exitOn rfl ?_ | refine g_ret ?_ | refine g_thenRet ?_ | refine g_blockRet ?_ | refine g_passS rfl ?_ | refine g_pass0 ?_ | refine g_passU rfl ?_ | refine g_passUS rfl ?_ | refine g_storeV ?_ | refine g_build1 rfl rfl fun _ _ => ?_ | refine g_buildN rfl rfl fun _ _ => ?_ | refine g_make rfl (by omega) (by omega) fun _ _ => ?_)
  exact g_retV rfl rfl
end Go.Proofs.YtbmnkjaelfjlhaaDoor


/- A function that begins by writing 0 into registers that nobody wrote yet: the run comes to the same. No program in sight. -/
namespace Go.Proofs.YtbmnkjaelfjlhaaDoor
open Go Go.RowKit

def zIns (z : Nat) : LIns := ⟨1, z, noV, noV, 0, []⟩
def addL (zs : List LIns) (bl : List LBlock) : List LBlock := bl.modify 0 fun B => { B with list := zs ++ B.list }
def addF (zs : List LIns) (X : LFunc) : LFunc := { X with blocks := addL zs X.blocks }
def addU (u : LUnit) (k : Nat) (zs : List LIns) : LUnit := { u with funcs := u.funcs.modify k (addF zs) }
theorem addL_len (zs : List LIns) (bl : List LBlock) : (addL zs bl).length = bl.length := List.length_modify _ _ _
theorem addL_get (zs : List LIns) (bl : List LBlock) (i : Nat) : (addL zs bl)[i]? = if 0 = i then (bl[i]?).map (fun B => { B with list := zs ++ B.list }) else bl[i]? := by
  unfold addL
  rw [List.getElem?_modify]
  by_cases e : 0 = i
  · simp only [e, if_true]; rfl
  · simp only [e, if_false, id_map']
theorem addL_to (zs : List LIns) (bl : List LBlock) (i : Nat) : toOf (addL zs bl) i = toOf bl i := by
  unfold toOf
  rw [addL_get]
  by_cases e : 0 = i
  · rw [if_pos e]
    cases h : bl[i]? <;> rfl
  · rw [if_neg e]
theorem addL_phis (zs : List LIns) (bl : List LBlock) (i : Nat) : phisOf (addL zs bl) i = phisOf bl i := by
  unfold phisOf
  rw [addL_get]
  by_cases e : 0 = i
  · rw [if_pos e]
    cases h : bl[i]? <;> rfl
  · rw [if_neg e]
theorem addL_preds (zs : List LIns) (bl : List LBlock) (t : Nat) : preds (addL zs bl) t = preds bl t := by
  unfold preds
  simp only [addL_len, addL_to]
theorem addU_get (u : LUnit) (k : Nat) (zs : List LIns) (j : Nat) : (addU u k zs).funcs[j]? = if k = j then (u.funcs[j]?).map (addF zs) else u.funcs[j]? := by
  unfold addU
  simp only
  rw [List.getElem?_modify]
  by_cases e : k = j
  · simp only [e, if_true]; rfl
  · simp only [e, if_false, id_map']
def blsOf (u : LUnit) (j : Nat) : List LBlock := match u.funcs[j]? with | some X => X.blocks | none => []
def regsOf (u : LUnit) (j : Nat) : Nat := match u.funcs[j]? with | some X => X.regs.toNat | none => 0
theorem blsOf_add (u : LUnit) (k : Nat) (zs : List LIns) (j : Nat) : blsOf (addU u k zs) j = if k = j then addL zs (blsOf u j) else blsOf u j := by
  unfold blsOf
  rw [addU_get]
  by_cases e : k = j
  · simp only [e, if_true]
    cases h : u.funcs[j]? <;> simp only [Option.map_none, Option.map_some] <;> rfl
  · simp only [e, if_false]
theorem regsOf_add (u : LUnit) (k : Nat) (zs : List LIns) (j : Nat) : regsOf (addU u k zs) j = regsOf u j := by
  unfold regsOf
  rw [addU_get]
  by_cases e : k = j
  · simp only [e, if_true]
    cases h : u.funcs[j]? <;> simp only [Option.map_none, Option.map_some] <;> rfl
  · simp only [e, if_false]
theorem preds_add (u : LUnit) (k : Nat) (zs : List LIns) (j t : Nat) : preds (blsOf (addU u k zs) j) t = preds (blsOf u j) t := by
  rw [blsOf_add]
  split
  · exact addL_preds _ _ _
  · rfl
theorem phisOf_add (u : LUnit) (k : Nat) (zs : List LIns) (j t : Nat) : phisOf (blsOf (addU u k zs) j) t = phisOf (blsOf u j) t := by
  rw [blsOf_add]
  split
  · exact addL_phis _ _ _
  · rfl

/-! ### The machine that has written them -/
def liftF (k n : Nat) (f : Frm) : Frm := { f with at' := if f.fn = k ∧ f.block = 0 then f.at' + n else f.at' }
def liftM (k n c : Nat) (s : Mac) : Mac := ⟨s.mem, s.inp, s.out, c, s.rest.map (liftF k n), liftF k n s.top, s.counts⟩
/-- so many of them are written -/
def preM (k n c : Nat) (s : Mac) (i : Nat) : Mac := ⟨s.mem, s.inp, s.out, c, s.rest.map (liftF k n), { s.top with at' := i }, s.counts⟩
theorem jumpM_def (u : LUnit) (s : Mac) (to : Int) : jumpM u s to = { s with top := { s.top with regs := phisM s.top ((preds (blsOf u s.top.fn) to.toNat).idxOf s.top.block) (phisOf (blsOf u s.top.fn) to.toNat), block := to.toNat, at' := 0 }, counts := bump s.counts s.top.fn to.toNat } := rfl
theorem enterM_def (u : LUnit) (s : Mac) (fn : Nat) (dst : Int) (args : List Int) : enterM u s fn dst args = { s with rest := s.rest ++ [s.top], top := ⟨fn, 0, 0, enterR (regsOf u fn) args, dst⟩, counts := bump s.counts fn 0 } := rfl
theorem jump_lift (u : LUnit) (k c : Nat) (zs : List LIns) (s : Mac) {to : Int} (h : to.toNat ≠ 0) : jumpM (addU u k zs) (liftM k zs.length c s) to = liftM k zs.length c (jumpM u s to) := by
  rw [jumpM_def, jumpM_def]
  obtain ⟨mem, inp, out, steps, rest, ⟨fn, block, at', regs, dst⟩, counts⟩ := s
  simp only [liftM, liftF, preds_add, phisOf_add, h, and_false, if_false]
  rfl
theorem enter_lift (u : LUnit) (k c : Nat) (zs : List LIns) (s : Mac) (fn : Nat) (dst : Int) (args : List Int) : enterM (addU u k zs) (liftM k zs.length c s) fn dst args = preM k zs.length c (enterM u s fn dst args) 0 := by
  rw [enterM_def, enterM_def]
  obtain ⟨mem, inp, out, steps, rest, ⟨fn, block, at', regs, dst⟩, counts⟩ := s
  simp only [liftM, preM, regsOf_add, List.map_append, List.map_cons, List.map_nil]
theorem pre_lift (k n c : Nat) (s : Mac) (h : s.top.at' = 0) : preM k n c s (if s.top.fn = k ∧ s.top.block = 0 then n else 0) = liftM k n c s := by
  unfold preM liftM liftF
  rw [h, Nat.zero_add]
theorem endM_same (u : LUnit) (s : Mac) {B B' : LBlock} (h1 : B'.kind = B.kind) (h2 : B'.on = B.on) (h3 : B'.to = B.to) : endM u s B' = endM u s B := by
  unfold endM
  rw [h1, h2, h3]
def liftR (k n c : Nat) : Mac ⊕ Fin → Mac ⊕ Fin
  | .inl s => .inl (liftM k n c s)
  | .inr f => .inr { f with steps := c }
theorem end_lift (u : LUnit) (k c : Nat) (zs : List LIns) (s : Mac) {B : LBlock} (ht : ∀ t ∈ B.to, 1 ≤ t) (hk : (B.to.length : Int) = B.kind - 1) : endM (addU u k zs) (liftM k zs.length c s) B = liftR k zs.length c (endM u s B) := by
  unfold endM
  by_cases h2 : B.kind = 2
  · rw [if_pos h2, if_pos h2]
    have := ht _ (to_get (B := B) (i := 0) (by omega))
    rw [jump_lift _ _ _ _ _ (by omega)]
    rfl
  rw [if_neg h2, if_neg h2]
  by_cases h3 : B.kind = 3
  · rw [if_pos h3, if_pos h3]
    have e1 := ht _ (to_get (B := B) (i := 0) (by omega))
    have e2 := ht _ (to_get (B := B) (i := 1) (by omega))
    rw [show valM (liftM k zs.length c s).top B.on = valM s.top B.on from rfl]
    split
    · rw [jump_lift _ _ _ _ _ (by omega)]; rfl
    · rw [jump_lift _ _ _ _ _ (by omega)]; rfl
  rw [if_neg h3, if_neg h3]
  have hr : (liftM k zs.length c s).rest.getLast? = (s.rest.getLast?).map (liftF k zs.length) := List.getLast?_map
  rw [hr]
  cases hl : s.rest.getLast? with
  | none => rfl
  | some t =>
    simp only [Option.map_some, liftR]
    unfold liftM
    simp only [List.map_dropLast]
    rfl
theorem ins_lift (u : LUnit) (k c : Nat) (zs : List LIns) (s : Mac) {x : LIns} (hx : x.op ≠ 20) : insM (addU u k zs) (liftM k zs.length c s) x = liftR k zs.length c (insM u s x) := by
  have hv : ∀ v, valM (liftM k zs.length c s).top v = valM s.top v := fun _ => rfl
  have hm : (liftM k zs.length c s).mem = s.mem := rfl
  have ho : (liftM k zs.length c s).out = s.out := rfl
  have hi : (liftM k zs.length c s).inp = s.inp := rfl
  unfold insM
  simp only [hv, hm, ho, hi]
  by_cases h1 : x.op = 18 ∨ x.op = 19
  · rw [if_pos h1, if_pos h1]
    split
    · rfl
    split <;> rfl
  rw [if_neg h1, if_neg h1, if_neg hx, if_neg hx]
  by_cases h3 : x.op = 21
  · rw [if_pos h3, if_pos h3]; rfl
  rw [if_neg h3, if_neg h3]
  by_cases h4 : x.op = 22
  · rw [if_pos h4, if_pos h4]
    split <;> rfl
  rw [if_neg h4, if_neg h4]
  cases twoL x.op (valM s.top x.a) (valM s.top x.b) <;> rfl
theorem call_lift (u : LUnit) (k c : Nat) (zs : List LIns) (s : Mac) {x : LIns} (hx : x.op = 20) : insM (addU u k zs) (liftM k zs.length c s) x = match insM u s x with | .inl s' => .inl (preM k zs.length c s' 0) | .inr f => .inr { f with steps := c } := by
  have hv : ∀ v, valM (liftM k zs.length c s).top v = valM s.top v := fun _ => rfl
  have hr : (liftM k zs.length c s).rest.length = s.rest.length := List.length_map _
  have hf : (fun v => valM (liftM k zs.length c s).top v) = valM s.top := rfl
  unfold insM
  have h1 : ¬ (x.op = 18 ∨ x.op = 19) := by omega
  simp only [hr, if_neg h1, if_pos hx]
  split
  · rfl
  · rw [enter_lift]
    rfl
/-- it is so at the start of the function, and when it was entered -/
structure Fresh (k : Nat) (ns : List Nat) (s : Mac) : Prop where
  at' : s.top.at' = 0
  regs : s.top.fn = k ∧ s.top.block = 0 → ∀ z ∈ ns, s.top.regs.set z 0 = s.top.regs
theorem enterR_zero {R z : Nat} {args : List Int} (h : args.length ≤ z) : (enterR R args).set z 0 = enterR R args := by
  unfold enterR
  apply List.ext_getElem?
  intro i
  rw [List.getElem?_set]
  split
  · rename_i e
    subst e
    split
    · rename_i hl
      rw [List.getElem?_take, if_pos (by simp at hl; omega), List.getElem?_append_right h, List.getElem?_replicate]
      simp at hl
      rw [if_pos (by omega)]
    · rename_i hl
      rw [List.getElem?_eq_none (by omega)]
  · rfl
section
variable {u : LUnit} {k : Nat} {ns : List Nat} {X : LFunc}
theorem pre_step (hX : u.funcs[k]? = some X) (hpos : 0 < X.blocks.length) {s : Mac} (h : Fresh k ns s) (hk : s.top.fn = k ∧ s.top.block = 0) {i z : Nat} (hz : ns[i]? = some z) (c : Nat) : stepM (addU u k (ns.map zIns)) (preM k ns.length c s i) = .inl (preM k ns.length (c + 1) s (i + 1)) := by
  have hB : X.blocks[0]? = some X.blocks[0] := List.getElem?_eq_getElem hpos
  have hlt := (List.getElem?_eq_some_iff.1 hz).1
  have hb : blockM (addU u k (ns.map zIns)) (preM k ns.length c s i).top = { X.blocks[0] with list := ns.map zIns ++ X.blocks[0].list } := by
    have e1 : (preM k ns.length c s i).top.fn = k := hk.1
    have e2 : (preM k ns.length c s i).top.block = 0 := hk.2
    unfold blockM
    rw [e1, e2, addU_get, if_pos rfl, hX]
    simp only [Option.map_some, addF]
    rw [List.getD_eq_getElem?_getD, addL_get, if_pos rfl, hB]
    rfl
  have hl : (ns.map zIns ++ X.blocks[0].list)[(preM k ns.length c s i).top.at']? = some (zIns z) := by
    show (ns.map zIns ++ X.blocks[0].list)[i]? = some (zIns z)
    rw [List.getElem?_append_left (by simpa using hlt), List.getElem?_map, hz]
    rfl
  rw [stepM_eq, hb]
  simp only
  rw [hl]
  simp only
  have h0 := h.regs hk z (List.mem_of_getElem? hz)
  unfold insM zIns
  simp only
  rw [if_neg (by omega), if_neg (by omega), if_neg (by omega), if_neg (by omega)]
  simp only [twoL, if_true]
  have hv : ∀ f : Frm, valM f noV = 0 := fun _ => rfl
  have hs : ∀ l : List Int, setR l (z : Int) 0 = l.set z 0 := fun l => by unfold setR; rw [if_pos (by omega), Int.toNat_natCast]
  rw [hv]
  unfold Mac.set Frm.set goOn tick preM
  simp only [hs, h0]
theorem pre_run (hX : u.funcs[k]? = some X) (hpos : 0 < X.blocks.length) {s : Mac} (h : Fresh k ns s) (m : Nat) : ∀ (j c i : Nat), i + j = (if s.top.fn = k ∧ s.top.block = 0 then ns.length else 0) → runM (addU u k (ns.map zIns)) (j + m) (preM k ns.length c s i) = runM (addU u k (ns.map zIns)) m (liftM k ns.length (c + j) s)
  | 0, c, i, e => by
    rw [Nat.zero_add, Nat.add_zero, ← pre_lift _ _ _ _ h.at', ← e, Nat.add_zero]
  | j + 1, c, i, e => by
    by_cases hk : s.top.fn = k ∧ s.top.block = 0
    · rw [if_pos hk] at e
      obtain ⟨z, hz⟩ : ∃ z, ns[i]? = some z := ⟨_, List.getElem?_eq_getElem (by omega)⟩
      rw [show j + 1 + m = (j + m) + 1 by omega, runM, pre_step hX hpos h hk hz]
      simp only
      rw [pre_run hX hpos h m j (c + 1) (i + 1) (by rw [if_pos hk]; omega)]
      congr 2
      omega
    · rw [if_neg hk] at e
      omega
/-- each block leads to blocks behind the first -/
def ToOk (u : LUnit) : Prop := ∀ (j : Nat) (Y : LFunc), u.funcs[j]? = some Y → ∀ B ∈ Y.blocks, ∀ t ∈ B.to, 1 ≤ t
theorem lift_block {s : Mac} {Y : LFunc} {B : LBlock} (c : Nat) (zs : List LIns) (hY : u.funcs[s.top.fn]? = some Y) (hB : Y.blocks[s.top.block]? = some B) : ∃ B', blockM (addU u k zs) (liftM k zs.length c s).top = B' ∧ B'.kind = B.kind ∧ B'.on = B.on ∧ B'.to = B.to ∧ B'.list[(liftM k zs.length c s).top.at']? = B.list[s.top.at']? := by
  refine ⟨_, rfl, ?_⟩
  have e1 : (liftM k zs.length c s).top.fn = s.top.fn := rfl
  have e2 : (liftM k zs.length c s).top.block = s.top.block := rfl
  have e3 : (liftM k zs.length c s).top.at' = if s.top.fn = k ∧ s.top.block = 0 then s.top.at' + zs.length else s.top.at' := rfl
  have hb : blockM (addU u k zs) (liftM k zs.length c s).top = if s.top.fn = k ∧ s.top.block = 0 then { B with list := zs ++ B.list } else B := by
    unfold blockM
    rw [e1, e2, addU_get]
    by_cases hk : k = s.top.fn
    · rw [if_pos hk, hY]
      simp only [Option.map_some, addF]
      rw [List.getD_eq_getElem?_getD, addL_get]
      by_cases h0 : 0 = s.top.block
      · rw [if_pos h0, hB, if_pos ⟨hk.symm, h0.symm⟩]; rfl
      · rw [if_neg h0, hB, if_neg (by omega)]; rfl
    · rw [if_neg hk, hY, if_neg (by omega)]
      simp only
      rw [List.getD_eq_getElem?_getD, hB]; rfl
  rw [hb, e3]
  by_cases hk : s.top.fn = k ∧ s.top.block = 0
  · rw [if_pos hk, if_pos hk]
    refine ⟨rfl, rfl, rfl, ?_⟩
    rw [List.getElem?_append_right (by omega), Nat.add_sub_cancel]
  · rw [if_neg hk, if_neg hk]
    exact ⟨rfl, rfl, rfl, rfl⟩
theorem lift_step (hu : UnitFit u) (ht : ToOk u) (hX : u.funcs[k]? = some X) (hns : ∀ z ∈ ns, X.params ≤ (z : Int)) {s : Mac} (h : MacOk u (s.steps + 1) s) (c : Nat) :
    match stepM u s with
    | .inl s' => stepM (addU u k (ns.map zIns)) (liftM k ns.length c s) = .inl (liftM k ns.length (c + 1) s') ∨ Fresh k ns s' ∧ stepM (addU u k (ns.map zIns)) (liftM k ns.length c s) = .inl (preM k ns.length (c + 1) s' 0)
    | .inr f => stepM (addU u k (ns.map zIns)) (liftM k ns.length c s) = .inr { f with steps := c + 1 } := by
  obtain ⟨Y, R, hf⟩ := h.top
  obtain ⟨B, hB⟩ : ∃ B, Y.blocks[s.top.block]? = some B := ⟨_, List.getElem?_eq_getElem hf.block⟩
  have hfit := hf.fit.blk B (List.mem_of_getElem? hB)
  have hto := ht _ Y hf.get B (List.mem_of_getElem? hB)
  obtain ⟨B', hb, h1, h2, h3, h4⟩ := lift_block (k := k) c (ns.map zIns) hf.get hB
  rw [List.length_map] at hb h4
  rw [stepM_eq u s, stepM_eq (addU u k (ns.map zIns)), hb, h4, blockM_eq hf hB]
  have ht' : tick (liftM k ns.length c s) = liftM k ns.length (c + 1) (tick s) := rfl
  cases hx : B.list[s.top.at']? with
  | none =>
    simp only
    have := end_lift u k (c + 1) (ns.map zIns) (tick s) hto hfit.kind.2
    rw [List.length_map] at this
    rw [endM_same _ _ h1 h2 h3, ht', this]
    cases endM u (tick s) B with
    | inl s' => exact .inl rfl
    | inr f => rfl
  | some x =>
    simp only
    have hg : goOn (liftM k ns.length (c + 1) (tick s)) = liftM k ns.length (c + 1) (goOn (tick s)) := by
      unfold goOn liftM liftF tick
      simp only
      congr 2
      split <;> omega
    rw [ht', hg]
    have hxf := hfit.list.2 x (List.mem_of_getElem? hx)
    by_cases h20 : x.op = 20
    · have := call_lift u k (c + 1) (ns.map zIns) (goOn (tick s)) h20
      rw [List.length_map] at this
      rw [this]
      cases he : insM u (goOn (tick s)) x with
      | inr f => rfl
      | inl s' =>
        refine .inr ⟨?_, rfl⟩
        unfold insM at he
        have h18 : ¬ (x.op = 18 ∨ x.op = 19) := by omega
        simp only [if_neg h18, if_pos h20] at he
        split at he
        · cases he
        rw [← Sum.inl.inj he, enterM_def]
        refine ⟨rfl, fun hk z hz => ?_⟩
        simp only at hk ⊢
        obtain ⟨j, Z, e1, e2, e3⟩ := hxf.call h20
        rw [e1, Int.toNat_natCast] at hk
        rw [hk.1, hX] at e2
        have := hns z hz
        rw [← Option.some.inj e2] at e3
        exact enterR_zero (by rw [List.length_map]; omega)
    · have := ins_lift u k (c + 1) (ns.map zIns) (goOn (tick s)) h20
      rw [List.length_map] at this
      rw [this]
      cases insM u (goOn (tick s)) x with
      | inl s' => exact .inl rfl
      | inr f => rfl
theorem lift_run (hu : UnitFit u) (ht : ToOk u) (hX : u.funcs[k]? = some X) (hpos : 0 < X.blocks.length) (hns : ∀ z ∈ ns, X.params ≤ (z : Int)) : ∀ (n : Nat) (s : Mac) (c m : Nat), MacOk u (s.steps + 1) s → (runM u n s).state ≠ 1 → (ns.length + 1) * n ≤ m →
    (runM (addU u k (ns.map zIns)) m (liftM k ns.length c s)).state = (runM u n s).state ∧ (runM (addU u k (ns.map zIns)) m (liftM k ns.length c s)).value = (runM u n s).value ∧ (runM (addU u k (ns.map zIns)) m (liftM k ns.length c s)).out = (runM u n s).out
  | 0, s, c, m, _, h1, _ => absurd rfl h1
  | n + 1, s, c, m, h, h1, hm => by
    rw [Nat.mul_add, Nat.mul_one] at hm
    obtain ⟨m, rfl⟩ : ∃ q, m = q + 1 := ⟨m - 1, by omega⟩
    have hst := lift_step hu ht hX hns h c
    rw [runM] at h1 ⊢
    rw [runM]
    cases he : stepM u s with
    | inr f =>
      rw [he] at hst
      simp only at hst
      rw [hst]
      exact ⟨rfl, rfl, rfl⟩
    | inl s' =>
      rw [he] at hst h1
      simp only at hst h1 ⊢
      obtain ⟨hok, _⟩ := step_ok hu h he
      rcases hst with hst | ⟨hfr, hst⟩
      · rw [hst]
        exact lift_run hu ht hX hpos hns n s' (c + 1) m hok h1 (by omega)
      · rw [hst]
        simp only
        generalize hj : (if s'.top.fn = k ∧ s'.top.block = 0 then ns.length else 0) = j
        have hjl : j ≤ ns.length := by rw [← hj]; split <;> omega
        obtain ⟨q, rfl⟩ : ∃ q, m = j + q := ⟨m - j, by omega⟩
        rw [pre_run hX hpos hfr q j (c + 1) 0 (by rw [hj]; omega)]
        exact lift_run hu ht hX hpos hns n s' (c + 1 + j) q hok h1 (by omega)
theorem lift_result (hu : UnitFit u) (hs : StartOk u) (ht : ToOk u) (hX : u.funcs[k]? = some X) (hpos : 0 < X.blocks.length) (hns : ∀ z ∈ ns, X.params ≤ (z : Int)) (hmain : mainAt (addU u k (ns.map zIns)).funcs = mainAt u.funcs) {inp : List Int} (hin : ∀ x ∈ inp, inI x) (n m : Nat) (h1 : (resultM u inp n).state ≠ 1) (hm : (ns.length + 1) * n + ns.length ≤ m) :
    (resultM (addU u k (ns.map zIns)) inp m).state = (resultM u inp n).state ∧ (resultM (addU u k (ns.map zIns)) inp m).value = (resultM u inp n).value ∧ (resultM (addU u k (ns.map zIns)) inp m).out = (resultM u inp n).out := by
  have hok := start_ok hu hs hin
  have hst : startM (addU u k (ns.map zIns)) inp = preM k ns.length 0 (startM u inp) 0 := by
    have e1 : ∀ v : LUnit, startM v inp = ⟨memL v.globals, inp, [], 0, [], ⟨(mainAt v.funcs).toNat, 0, 0, List.replicate (regsOf v (mainAt v.funcs).toNat) 0, -1⟩, bump (v.funcs.map fun X => List.replicate X.blocks.length 0) (mainAt v.funcs).toNat 0⟩ := fun _ => rfl
    have e2 : ((addU u k (ns.map zIns)).funcs.map fun X => List.replicate X.blocks.length 0) = u.funcs.map fun X => List.replicate X.blocks.length 0 := by
      apply List.ext_getElem?
      intro j
      rw [List.getElem?_map, List.getElem?_map, addU_get]
      split
      · cases u.funcs[j]? <;> simp [addF, addL_len]
      · rfl
    rw [e1, e1, hmain, regsOf_add, e2]
    rfl
  have hfr : Fresh k ns (startM u inp) := by
    obtain ⟨fm, M, hm, hM⟩ := hs.main
    obtain ⟨R, hfit⟩ := hu.2 fm M hM
    rw [start_eq hm hM hfit.regs]
    exact ⟨rfl, fun _ z _ => enterR_zero (by simp)⟩
  unfold resultM at h1 ⊢
  rw [hst]
  generalize hj : (if (startM u inp).top.fn = k ∧ (startM u inp).top.block = 0 then ns.length else 0) = j
  have hjl : j ≤ ns.length := by rw [← hj]; split <;> omega
  obtain ⟨q, rfl⟩ : ∃ q, m = j + q := ⟨m - j, by omega⟩
  rw [pre_run hX hpos hfr q j 0 0 (by rw [hj]; omega)]
  exact lift_run hu ht hX hpos hns n _ _ q hok h1 (by omega)
end
end Go.Proofs.YtbmnkjaelfjlhaaDoor


/- A function that begins by writing 0 into registers passes the check, too. No program in sight. -/
namespace Go.Proofs.YtbmnkjaelfjlhaaDoor
open Go Go.RowKit

theorem head_zero {names : List ByteArray} {f : LFunc} : headErr names f = 0 ↔ nameOk f.name = true ∧ hasName names f.name = false ∧ (0 ≤ f.params ∧ f.params ≤ 6) ∧ (f.params ≤ f.regs ∧ f.regs ≤ 100) ∧ (1 ≤ f.blocks.length ∧ f.blocks.length ≤ 40) ∧ sizeOfBs f.blocks ≤ 300 := by
  unfold headErr
  constructor
  · intro h
    split at h
    · cases h
    rename_i h1
    split at h
    · cases h
    rename_i h2
    split at h
    · cases h
    rename_i h3
    split at h
    · cases h
    rename_i h4
    simp [within] at h1 h2 h3 h4
    exact ⟨h1, h2, by omega, by omega, by omega, by omega⟩
  · rintro ⟨h1, h2, h3, h4, h5, h6⟩
    rw [if_neg (by simp [h1]), if_neg (by simp [h2]), if_neg (by simp [within]; omega), if_neg (by simp [within]; omega)]
theorem sizeOfBs_add (zs : List LIns) {bl : List LBlock} (h : 0 < bl.length) : sizeOfBs (addL zs bl) = sizeOfBs bl + zs.length := by
  cases bl with
  | nil => cases h
  | cons B bl =>
    unfold addL sizeOfBs
    simp only [List.modify_zero_cons, List.map_cons, List.sum_cons, List.length_append]
    omega
theorem addU_map {α : Type} (g : LFunc → α) (u : LUnit) (k : Nat) (zs : List LIns) (hg : ∀ X, g (addF zs X) = g X) : (addU u k zs).funcs.map g = u.funcs.map g := by
  apply List.ext_getElem?
  intro j
  rw [List.getElem?_map, List.getElem?_map, addU_get]
  split
  · cases u.funcs[j]? <;> simp [hg]
  · rfl
theorem addU_len (u : LUnit) (k : Nat) (zs : List LIns) : (addU u k zs).funcs.length = u.funcs.length := List.length_modify _ _ _
theorem mainAt_map (fs : List LFunc) : mainAt fs = match (fs.map (·.name)).findIdx? (fun s => s.toList == (ByteArray.mk #[109, 97, 105, 110]).toList) with | some i => (i : Int) | none => -1 := by
  unfold mainAt
  rw [List.findIdx?_map]
  rfl
theorem addU_main (u : LUnit) (k : Nat) (zs : List LIns) : mainAt (addU u k zs).funcs = mainAt u.funcs := by
  rw [mainAt_map, mainAt_map, addU_map (fun X : LFunc => X.name) _ _ _ fun _ => rfl]
theorem addU_params (u : LUnit) (k : Nat) (zs : List LIns) (i : Nat) : ((addU u k zs).funcs[i]?).map LFunc.params = (u.funcs[i]?).map LFunc.params := by
  rw [← List.getElem?_map, ← List.getElem?_map, addU_map LFunc.params _ _ _ fun _ => rfl]
theorem zIns_zero (fs : List LFunc) {R : Int} {z : Nat} (h : (z : Int) < R) : insErr fs R (zIns z) = 0 := by
  have hd : dstErr R (z : Int) = 0 := by unfold dstErr; rw [if_neg (by simp [within]; omega)]
  have hv : valErr R noV = 0 := rfl
  have hs : strayB (zIns z) = false := rfl
  have hc : callErr fs R (zIns z) = 0 := rfl
  unfold insErr
  rw [hs, hc]
  unfold zIns
  simp only [hd, hv]
  simp [within]
theorem check_to {u : LUnit} (h : CheckOk u) : ToOk u := fun _ Y hY B hB t ht => (end_to ((h.body Y (List.mem_of_getElem? hY)).ends B hB) t ht).1
theorem zero_check {u : LUnit} {k : Nat} {ns : List Nat} {X : LFunc} (h : CheckOk u) (hX : u.funcs[k]? = some X) (hns : ∀ z ∈ ns, (z : Int) < X.regs) (hsz : sizeOfBs X.blocks + ns.length ≤ 300) : CheckOk (addU u k (ns.map zIns)) := by
  have hkl := (List.getElem?_eq_some_iff.1 hX).1
  have hpar := addU_params u k (ns.map zIns)
  have hlen := addU_len u k (ns.map zIns)
  refine ⟨h.globs, by rw [hlen]; exact h.funcs, h.glob, fun i hi => ?_, fun Z hZ => ?_, by rw [addU_main]; exact h.main, ?_⟩
  · rw [hlen] at hi
    have h0 := h.head i hi
    unfold headAt at h0 ⊢
    rw [List.map_take, addU_map (fun X : LFunc => X.name) _ _ _ fun _ => rfl, ← List.map_take]
    unfold at0 at h0 ⊢
    rw [addU_get]
    rw [List.getElem?_eq_getElem hi] at h0 ⊢
    by_cases e : k = i
    · subst e
      rw [if_pos rfl]
      simp only [Option.map_some] at h0 ⊢
      obtain ⟨h1, h2, h3, h4, h5, h6⟩ := head_zero.1 h0
      have hXe : u.funcs[k] = X := (List.getElem?_eq_some_iff.1 hX).2
      rw [hXe] at h1 h2 h3 h4 h5 h6 ⊢
      refine head_zero.2 ⟨h1, h2, h3, h4, by unfold addF; simp only [addL_len]; exact h5, ?_⟩
      unfold addF
      simp only
      rw [sizeOfBs_add _ (by omega), List.length_map]
      exact hsz
    · rw [if_neg e]
      exact h0
  · obtain ⟨j, hj⟩ := List.getElem?_of_mem hZ
    rw [addU_get] at hj
    by_cases e : k = j
    · subst e
      rw [if_pos rfl, hX] at hj
      simp only [Option.map_some, Option.some.injEq] at hj
      subst hj
      have hb := h.body X (List.mem_of_getElem? hX)
      have key : ∀ (b : Nat) (C : LBlock), (addL (ns.map zIns) X.blocks)[b]? = some C → ∃ B, X.blocks[b]? = some B ∧ C.kind = B.kind ∧ C.on = B.on ∧ C.to = B.to ∧ C.phis = B.phis ∧ ∀ x ∈ C.list, x ∈ B.list ∨ ∃ z ∈ ns, x = zIns z := fun b C hC => by
        rw [addL_get] at hC
        split at hC
        · obtain ⟨B, hB, rfl⟩ := Option.map_eq_some_iff.1 hC
          refine ⟨B, hB, rfl, rfl, rfl, rfl, fun x hx => ?_⟩
          rcases List.mem_append.1 hx with hx | hx
          · obtain ⟨z, hz, rfl⟩ := List.mem_map.1 hx
            exact .inr ⟨z, hz, rfl⟩
          · exact .inl hx
        · exact ⟨C, hC, rfl, rfl, rfl, rfl, fun x hx => .inl hx⟩
      refine ⟨fun C hC => ?_, fun b C hC p hp => ?_, fun b C hC x hx => ?_⟩
      · obtain ⟨b, hb'⟩ := List.getElem?_of_mem hC
        obtain ⟨B, hB, h1, h2, h3, _⟩ := key b C hb'
        have := hb.ends B (List.mem_of_getElem? hB)
        unfold endErr at this ⊢
        rw [h1, h2, h3]
        unfold addF
        simp only [addL_len]
        exact this
      · obtain ⟨B, hB, _, _, _, h4, _⟩ := key b C hC
        have := hb.phis b B hB p (h4 ▸ hp)
        unfold phiErr at this ⊢
        unfold addF
        simp only
        rw [aheadL_same (addL_len _ _) (addL_to _ _)]
        exact this
      · obtain ⟨B, hB, _, _, _, _, h5⟩ := key b C hC
        rcases h5 x hx with hx | ⟨z, hz, rfl⟩
        · rw [insErr_same hlen hpar]
          exact hb.list b B hB x hx
        · exact zIns_zero _ (hns z hz)
    · rw [if_neg e] at hj
      have hb := h.body Z (List.mem_of_getElem? hj)
      exact ⟨hb.ends, hb.phis, fun b C hC x hx => by rw [insErr_same hlen hpar]; exact hb.list b C hC x hx⟩
  · rw [addU_main]
    have := h.none
    have hp := hpar (mainAt u.funcs).toNat
    unfold at0 at this ⊢
    cases h1 : u.funcs[(mainAt u.funcs).toNat]? <;> cases h2 : (addU u k (ns.map zIns)).funcs[(mainAt u.funcs).toNat]? <;> simp [h1, h2] at hp this ⊢
    omega
theorem zero_light {u : LUnit} {k : Nat} {ns : List Nat} (h : CheckOk (addU u k (ns.map zIns))) : light (addU u k (ns.map zIns)) := by
  refine ⟨h.funcs, fun X hX => ?_⟩
  obtain ⟨j, hj⟩ := List.getElem?_of_mem hX
  have h0 := h.head j (List.getElem?_eq_some_iff.1 hj).1
  unfold headAt at0 at h0
  rw [hj] at h0
  obtain ⟨_, _, _, _, h5, h6⟩ := head_zero.1 h0
  exact ⟨by omega, h6⟩
end Go.Proofs.YtbmnkjaelfjlhaaDoor


/- Rows of numbers as one reads them: what texts far from one another need. -/
namespace Go.Proofs.YtbmnkjaelfjlhaaDoor
open Go Go.RowKit
attribute [local irreducible] wpListIn Code.wpIn Exit.then Exit.inBlock bodyPost wpQuiet wpAnyIn wpAnyH bodyPostM
/-- a table of rows of numbers, from wherever it begins, as one reads it -/
theorem rows_slB {S : Nat → Prop} {w0 w : World} {rs : List Row} {a : Option Addr} {c e : Nat} {H : List Ent} (h : Wd S w0 (Ent.vec a rs.length c e 1 (rs.map valR) :: (rs.map entR ++ H)) w) (hb : rs.length ≤ 100000) (hl : ∀ r ∈ rs, r.l.length ≤ 1000 ∧ ∀ x ∈ r.l, inI x) : SlAt w (.slice a rs.length c) 1 (rs.map (·.l)) RowV := by
  refine h.slAt (k := 0) rfl (by rw [List.length_map]) (by omega) fun i x hx => ?_
  rw [List.getElem?_map] at hx
  obtain ⟨r, hr, rfl⟩ := Option.map_eq_some_iff.1 hx
  refine ⟨[valR r], fun j v hj => ?_, _, rfl, row_sl (E := [_]) (H := H) h hr (hl r (List.mem_of_getElem? hr))⟩
  match j, hj with
  | 0, hj => simpa [hr] using hj
end Go.Proofs.YtbmnkjaelfjlhaaDoor


/- live.In as a table that is known. -/
namespace Go.Proofs.YtbmnkjaelfjlhaaDoor
open Go Go.RowKit

theorem inG_lenZ (bl : List LBlock) (R : Nat) : (inG bl R).length = bl.length := by unfold inG; rw [List.length_map, List.length_range]
theorem inKZ (u : LUnit) (hl : light u) (k : Nat) (hgood : (askedL u k).1 = 0) (X : LFunc) (hX : u.funcs[k]? = some X) (hch : (checkL u).1 = 0) (hR : X.regs.toNat ≤ 100) (g fs : Value) (w0 : World) (hg : SlAt w0 g 3 u.globals GlobalV) (hf : SlAt w0 fs 4 u.funcs FuncV) (hways : CellsAt w0 0 0 waysC) :
    RetK Tryd.prog 32 [.agg #[g, fs], .int .i64 k] w0 1 (inG X.blocks X.regs.toNat) RowV fun v => .tuple #[v, .agg #[.int .i64 0, .int .i64 0]] :=
  retK_of (in_ok u hl k hgood X hX hch g fs w0 hg hf hways) fun x hx => ⟨x.1, x.2.1, by rw [inG_lenZ], fun w2 hw => by
    have h24 := (hl.2 X (List.mem_of_getElem? hX)).1
    have hlen : x.2.2.length = X.blocks.length := by have := congrArg List.length hx; rwa [List.length_map, inG_lenZ] at this
    rw [← hx, List.length_map]
    rw [← hlen] at hw
    exact rows_slB (H := []) (by rw [List.append_nil]; exact hw) (by omega) fun r hr => by
      have hm : r.l ∈ inG X.blocks X.regs.toNat := hx ▸ List.mem_map.2 ⟨r, hr, rfl⟩
      unfold inG at hm
      obtain ⟨b, _, e⟩ := List.mem_map.1 hm
      rw [← e]; exact intsL_bd hR⟩
/-- what it tells are registers, rising -/
theorem inG_row {bl : List LBlock} {R b : Nat} (hb : b < bl.length) : ∃ ns : List Nat, (inG bl R)[b]? = some (ns.map fun x : Nat => (x : Int)) ∧ (∀ z ∈ ns, z < R) := by
  refine ⟨liveN bl R (b, -1), by unfold inG; rw [List.getElem?_map, List.getElem?_range hb]; rfl, fun z hz => ?_⟩
  unfold liveN at hz
  exact List.mem_range.1 (List.mem_filter.1 hz).1
end Go.Proofs.YtbmnkjaelfjlhaaDoor

