/- Texts joined: RunDo Means ZeroP ZeroQ RowsB InK. -/
import Derived.Test.YtbmnkjaelfjlhaaDoorGE
import Derived.Test.YtbmnkjaelfjlhaaDoorGI
import Derived.Test.YtbmnkjaelfjlhaaDoorGJ
import Derived.Test.YtbmnkjaelfjlhaaDoorGL
import Derived.Test.YtbmnkjaelfjlhaaDoorGN
import Derived.Test.YtbmnkjaelfjlhaaDoorHF
import Derived.Test.YtbmnkjaelfjlhaaDoorHJ
/- run.Do: what it returns. -/
namespace Go.Proofs.YtbmnkjaelfjlhaaDoor
open Go Go.RowKit
attribute [local irreducible] wpListIn Code.wpIn Exit.then Exit.inBlock bodyPost wpQuiet wpAnyIn wpAnyH bodyPostM oneH
set_option maxHeartbeats 4000000

/-! ### What a run tells is in bounds -/
theorem step_finO {u : LUnit} {s : Mac} {f : Fin} (he : stepM u s = .inr f) : f.out = s.out := by
  rw [stepM_eq] at he
  split at he
  · unfold endM at he
    split at he
    · cases he
    split at he
    · cases he
    split at he
    · rw [← Sum.inr.inj he]; rfl
    · cases he
  · unfold insM at he
    simp only at he
    repeat' (split at he)
    all_goals first
      | (cases he; done)
      | (rw [← Sum.inr.inj he] <;> rfl)
theorem run_out {u : LUnit} (hu : UnitFit u) : ∀ (n : Nat) (s : Mac), MacOk u (s.steps + 1) s → (runM u n s).out.length ≤ 200 ∧ ∀ x ∈ (runM u n s).out, inI x
  | 0, s, h => h.out
  | n + 1, s, h => by
    rw [runM]
    cases he : stepM u s with
    | inl s' => exact run_out hu n s' (step_ok hu h he).1
    | inr f => simp only; rw [step_finO he]; exact h.out
theorem result_out {u : LUnit} (hu : UnitFit u) (hs : StartOk u) {inp : List Int} (hin : ∀ x ∈ inp, inI x) (fuel : Nat) : (resultM u inp fuel).out.length ≤ 200 ∧ ∀ x ∈ (resultM u inp fuel).out, inI x :=
  run_out hu fuel (startM u inp) (start_ok hu hs hin)

theorem do_bad (u : LUnit) (hl : light u) (g fs iv : Value) (inp : List Int) (fuel : Int) (hbad : (countsE u inp.length fuel).1 ≠ 0) (w0 : World) (hg : SlAt w0 g 3 u.globals GlobalV) (hf : SlAt w0 fs 4 u.funcs FuncV) (hin : SlAt w0 iv 1 inp IntV) (hways : CellsAt w0 0 0 waysC) :
    RetV Tryd.prog 23 [.agg #[g, fs], iv, .int .i64 fuel] w0 (.tuple #[.agg #[.int .i64 0, .int .i64 0, .slice none 0 0, .int .i64 0], .agg #[.int .i64 (countsE u inp.length fuel).1, .int .i64 (countsE u inp.length fuel).2]]) := by
  have hg0 := hg
  have hf0 := hf
  have hin0 := hin
  obtain ⟨ga, gn, gc, gb, go, rfl, _⟩ := hg
  obtain ⟨fa, fn, fc, fb, fo, rfl, _⟩ := hf
  obtain ⟨ia, il, ic, ib, io, rfl, hil, _⟩ := hin
  refine ret_enter Tryd.func23 rfl Tryd.ntmps23 rfl (Wd.nil NoS w0) ?_
  repeat (first | refine g_op rfl ?_ | refine g_then ?_ | refine g_nil ?_ | refine g_region ?_ | refine g_seq ?_ | refine g_box rfl fun _ _ => ?_ | refine g_alloc rfl fun _ _ => ?_)
  refine g_callV rfl (fun w hw => counts_bad u hl _ _ _ inp fuel hbad w (hg0.keep keeps_global hw.chg) (hf0.keep keeps_func hw.chg) (hin0.keep keeps_int hw.chg) (hways.keep hw.chg)) ?_
  repeat (first | refine g_op rfl ?_ | refine g_then ?_ | refine g_nil ?_ | refine g_seq ?_ | refine g_alloc rfl fun _ _ => ?_ | refine g_storeAgg ?_)
  rename_i p3 _ p6 _ p7 _ p9 _ p10 _
  refine g_fix (L' := [(6, .pointer (some ⟨p6, 0, none⟩)), (7, .pointer (some ⟨p7, 0, none⟩)), (9, .pointer (some ⟨p9, 0, none⟩)), (10, .pointer (some ⟨p10, 0, none⟩))]) (by repeat (first | exact trivial | refine ⟨rfl, ?_⟩)) (List.Sublist.refl _) ?_
  refine g_drawX [Ent.box p10 [.int .i64 (countsE u inp.length fuel).1, .int .i64 (countsE u inp.length fuel).2] 28, Ent.box p9 [.int .i64 0, .int .i64 0, .slice none 0 0, .int .i64 0] 52] (fun _ : Unit => True) (fun _ => [(6, .pointer (some ⟨p6, 0, none⟩)), (7, .pointer (some ⟨p7, 0, none⟩))]) (fun _ => [Ent.box p7 [.int .i64 (countsE u inp.length fuel).1, .int .i64 (countsE u inp.length fuel).2] 28, Ent.box p6 [.int .i64 0, .int .i64 0, .slice none 0 0, .int .i64 0] 52]) mixed (List.Sublist.cons_cons _ (List.Sublist.cons_cons _ (List.nil_sublist _))) ?_ fun _ _ => ?_
  · skip
    refine h_take 0 rfl (by decide +kernel) (List.Sublist.cons_cons _ (List.Sublist.cons_cons _ (List.nil_sublist _))) ?_
    refine h_take 1 rfl (by decide +kernel) (List.Sublist.cons_cons _ (List.Sublist.cons_cons _ (List.nil_sublist _))) ?_
    refine h_storeAgg 2 (by decide +kernel) (List.Sublist.cons_cons _ (List.Sublist.cons_cons _ (List.nil_sublist _))) ?_
    refine h_storeAgg 3 (by decide +kernel) (List.Sublist.cons_cons _ (List.Sublist.cons_cons _ (List.nil_sublist _))) ?_
    refine h_end (by decide +kernel) ?_
    exact g_mem () trivial (by repeat (first | exact trivial | refine ⟨rfl, ?_⟩)) (by simp)
  repeat (first | refine g_then ?_ | refine g_ret ?_)
  exact g_retCC rfl fun w' hw' => ⟨rfl, hw'.chg⟩
theorem do_ok (u : LUnit) (hl : light u) (g fs iv : Value) (inp : List Int) (fuel : Nat) (hgood : (countsE u inp.length fuel).1 = 0) (w0 : World) (hg : SlAt w0 g 3 u.globals GlobalV) (hf : SlAt w0 fs 4 u.funcs FuncV) (hin : SlAt w0 iv 1 inp IntV) (hways : CellsAt w0 0 0 waysC) :
    Ret Tryd.prog 23 [.agg #[g, fs], iv, .int .i64 fuel] w0 fun v w' => ∃ x : Option Addr × Nat × (Nat → Prop),
      v = .tuple #[.agg #[.int .i64 (resultM u inp fuel).state, .int .i64 (resultM u inp fuel).value, .slice x.1 (resultM u inp fuel).out.length x.2.1, .int .i64 (resultM u inp fuel).steps], .agg #[.int .i64 0, .int .i64 0]] ∧
      Wd NoS w0 [⟨x.2.2, fun w => SlAt w (.slice x.1 (resultM u inp fuel).out.length x.2.1) 1 (resultM u inp fuel).out IntV⟩] w' ∧ True := by
  obtain ⟨h0, hil', k, hk, hk'⟩ := countsE_zero hgood
  have hkf : fuel = k := by omega
  have hu := unit_fit hl h0 (nums_of hf)
  have hs := check_start h0 (gnums_of hg)
  have hini : ∀ x ∈ inp, inI x := fun x hx => by obtain ⟨_, _, h9⟩ := hin.el hx; exact h9
  have hout := result_out hu hs hini fuel
  have hg0 := hg
  have hf0 := hf
  have hin0 := hin
  obtain ⟨ga, gn, gc, gb, go, rfl, _⟩ := hg
  obtain ⟨fa, fn, fc, fb, fo, rfl, _⟩ := hf
  obtain ⟨ia, il, ic, ib, io, rfl, hil, _⟩ := hin
  refine ret_enter Tryd.func23 rfl Tryd.ntmps23 rfl (Wd.nil NoS w0) ?_
  repeat (first | refine g_op rfl ?_ | refine g_then ?_ | refine g_nil ?_ | refine g_region ?_ | refine g_seq ?_ | refine g_box rfl fun _ _ => ?_ | refine g_alloc rfl fun _ _ => ?_)
  refine g_callE (val := fun m : MacV => .tuple #[.slice m.ca m.cs.length m.cc, .agg #[.int .i64 m.state, .int .i64 m.value, .slice m.oa m.out.length m.oc, .int .i64 m.steps], .agg #[.int .i64 0, .int .i64 0]]) (E := fun m => [outE m]) (φ := fun m => FinRep m (resultM u inp fuel)) rfl (fun w hw =>
    (counts_c u hl h0 hs hu _ _ _ inp fuel (by omega) hil' w (hg0.keep keeps_global hw.chg) (hf0.keep keeps_func hw.chg) (hin0.keep keeps_int hw.chg) (hways.keep hw.chg)).mono fun v w' ⟨m, h1, h2, h3⟩ => ⟨m, h1, h2.sub (List.Sublist.cons_cons _ (List.nil_sublist _)), h3⟩) fun m hm => ?_
  simp only [List.cons_append, List.nil_append]
  repeat (first | refine g_op rfl ?_ | refine g_then ?_ | refine g_nil ?_ | refine g_seq ?_ | refine g_alloc rfl fun _ _ => ?_ | refine g_storeAgg ?_)
  rename_i p3 _ p6 _ p7 _ p9 _ p10 _
  refine g_fix (L' := [(6, .pointer (some ⟨p6, 0, none⟩)), (7, .pointer (some ⟨p7, 0, none⟩)), (9, .pointer (some ⟨p9, 0, none⟩)), (10, .pointer (some ⟨p10, 0, none⟩))]) (by repeat (first | exact trivial | refine ⟨rfl, ?_⟩)) (List.Sublist.refl _) ?_
  refine g_drawX [Ent.box p10 [.int .i64 0, .int .i64 0] 28, Ent.box p9 [.int .i64 m.state, .int .i64 m.value, .slice m.oa m.out.length m.oc, .int .i64 m.steps] 52] (fun _ : Unit => True) (fun _ => [(6, .pointer (some ⟨p6, 0, none⟩)), (7, .pointer (some ⟨p7, 0, none⟩))]) (fun _ => [outE m, Ent.box p7 [.int .i64 0, .int .i64 0] 28, Ent.box p6 [.int .i64 m.state, .int .i64 m.value, .slice m.oa m.out.length m.oc, .int .i64 m.steps] 52]) mixed (List.Sublist.cons_cons _ (List.Sublist.cons_cons _ (List.nil_sublist _))) ?_ fun _ _ => ?_
  · skip
    refine h_take 0 rfl (by decide +kernel) (List.Sublist.cons_cons _ (List.Sublist.cons_cons _ (List.nil_sublist _))) ?_
    refine h_take 1 rfl (by decide +kernel) (List.Sublist.cons_cons _ (List.Sublist.cons_cons _ (List.nil_sublist _))) ?_
    refine h_storeAgg 2 (by decide +kernel) (List.Sublist.cons_cons _ (List.Sublist.cons_cons _ (List.nil_sublist _))) ?_
    refine h_storeAgg 3 (by decide +kernel) (List.Sublist.cons_cons _ (List.Sublist.cons_cons _ (List.nil_sublist _))) ?_
    refine h_end (by decide +kernel) ?_
    exact g_mem () trivial (by repeat (first | exact trivial | refine ⟨rfl, ?_⟩)) (by simp)
  repeat (first | refine g_then ?_ | refine g_ret ?_)
  refine g_retCC rfl fun w' hw' => ⟨(m.oa, m.oc, fps [outE m]), ?_, ?_, trivial⟩
  · rw [← hm.state, ← hm.value, ← hm.out, ← hm.steps]
  · have h1 : Wd NoS w0 ([outE m] ++ []) w' := hw'.sub (List.Sublist.cons_cons _ (List.nil_sublist _))
    have h2 := h1.pack (fun w => SlAt w (.slice m.oa m.out.length m.oc) 1 m.out IntV) fun w2 hw2 => ?_
    · rw [← hm.out]; exact h2
    · refine hw2.slAt (k := 0) rfl rfl (by rw [hm.out]; omega) fun i x hx => ⟨[.int .i64 x], fun j v hj => ?_, rfl, hout.2 x (by rw [← hm.out]; exact List.mem_of_getElem? hx)⟩
      match j, hj with
      | 0, hj => simpa [hx] using hj
end Go.Proofs.YtbmnkjaelfjlhaaDoor


/- turnerysame.Comes, turnerymeans.Same: what they return. -/
namespace Go.Proofs.YtbmnkjaelfjlhaaDoor
open Go Go.RowKit
attribute [local irreducible] wpListIn Code.wpIn Exit.then Exit.inBlock bodyPost wpQuiet wpAnyIn wpAnyH bodyPostM oneH
set_option maxHeartbeats 4000000

theorem comes_c (s v t1 t2 : Int) (a1 a2 : Option Addr) (c1 c2 : Nat) (l : List Int) (w0 : World) (h1 : SlAt w0 (.slice a1 l.length c1) 1 l IntV) (h2 : SlAt w0 (.slice a2 l.length c2) 1 l IntV) :
    RetV Tryd.prog 24 [.agg #[.int .i64 s, .int .i64 v, .slice a1 l.length c1, .int .i64 t1], .agg #[.int .i64 s, .int .i64 v, .slice a2 l.length c2, .int .i64 t2]] w0 (.bool true) := by
  refine ret_enter Tryd.func24 rfl Tryd.ntmps24 rfl (Wd.nil NoS w0) ?_
  repeat (first | refine g_op rfl ?_ | refine g_then ?_ | refine g_nil ?_ | refine g_region ?_ | refine g_seq ?_ | refine g_box rfl fun _ _ => ?_)
  rw [show decide (s = s) = true by simp]
  repeat (first | refine g_op rfl ?_ | refine g_open ?_)
  rw [show decide (v = v) = true by simp]
  repeat (first | refine g_op rfl ?_ | refine g_open ?_)
  refine g_callV rfl (fun w hw => ints_c _ _ l l w (h1.keep (fun _ _ _ _ _ h => h) hw.chg) (h2.keep (fun _ _ _ _ _ h => h) hw.chg)) ?_
  rw [show decide (l = l) = true by simp]
  repeat (first | refine g_op rfl ?_ | refine g_then ?_ | refine g_nil ?_ | refine g_opS rfl ?_ | refine g_ret ?_)
  exact g_retV rfl rfl
/-- the second unit comes to what the first one comes to -/
structure Comes (a b : LUnit) (inp : List Int) (f k : Nat) : Prop where
  ok : (countsE b inp.length k).1 = 0
  state : (resultM b inp k).state = (resultM a inp f).state
  value : (resultM b inp k).value = (resultM a inp f).value
  out : (resultM b inp k).out = (resultM a inp f).out
theorem same_c (a b : LUnit) (hla : light a) (hlb : light b) (ga fa gb fb iv : Value) (inp : List Int) (fuel : Int) (w0 : World) (hga : SlAt w0 ga 3 a.globals GlobalV) (hfa : SlAt w0 fa 4 a.funcs FuncV) (hgb : SlAt w0 gb 3 b.globals GlobalV) (hfb : SlAt w0 fb 4 b.funcs FuncV) (hin : SlAt w0 iv 1 inp IntV) (hways : CellsAt w0 0 0 waysC)
    (hsame : ∀ f : Nat, f ≤ 2000 → (countsE a inp.length f).1 = 0 → (resultM a inp f).state ≠ 1 → Comes a b inp f (20 * f + 200)) :
    RetV Tryd.prog 22 [.agg #[ga, fa], .agg #[gb, fb], iv, .int .i64 fuel] w0 (.bool true) := by
  have hga0 := hga
  have hfa0 := hfa
  have hgb0 := hgb
  have hfb0 := hfb
  have hin0 := hin
  obtain ⟨ga1, gan, gac, _, _, rfl, _⟩ := hga
  obtain ⟨fa1, fan, fac, _, _, rfl, _⟩ := hfa
  obtain ⟨gb1, gbn, gbc, _, _, rfl, _⟩ := hgb
  obtain ⟨fb1, fbn, fbc, _, _, rfl, _⟩ := hfb
  obtain ⟨ia, il, ic, _, _, rfl, _⟩ := hin
  refine ret_enter Tryd.func22 rfl Tryd.ntmps22 rfl (Wd.nil NoS w0) ?_
  repeat (first | refine g_op rfl ?_ | refine g_then ?_ | refine g_nil ?_ | refine g_region ?_ | refine g_seq ?_ | refine g_box rfl fun _ _ => ?_)
  by_cases h1 : fuel < 0
  · rw [show decide (fuel < 0) = true by simp [h1]]
    repeat (first | refine g_op rfl ?_ | refine g_then ?_ | refine g_nil ?_ | refine g_region ?_ | refine g_seq ?_ | refine g_opS rfl ?_ | refine g_pass rfl ?_ | refine g_condT ?_ | refine g_ret ?_ | refine g_thenRet ?_)
    exact g_retV rfl rfl
  rw [show decide (fuel < 0) = false by simp [h1]]
  repeat (first | refine g_op rfl ?_ | refine g_then ?_ | refine g_nil ?_ | refine g_open ?_)
  refine g_cond (fun h2 => ?_) (fun h2 => ?_)
  · repeat (first | refine g_then ?_ | refine g_nil ?_ | refine g_region ?_ | refine g_seq ?_ | refine g_opS rfl ?_ | refine g_ret ?_ | refine g_thenRet ?_)
    exact g_retV rfl rfl
  obtain ⟨f, rfl⟩ : ∃ f : Nat, fuel = f := ⟨fuel.toNat, by omega⟩
  have hf2 : f ≤ 2000 := by simp at h2; omega
  repeat (first | refine g_op rfl ?_ | refine g_then ?_ | refine g_region ?_ | refine g_seq ?_ | refine g_skip ?_)
  by_cases hbad : (countsE a inp.length f).1 ≠ 0
  · refine g_callV rfl (fun w hw => do_bad a hla _ _ _ inp f hbad w (hga0.keep keeps_global hw.chg) (hfa0.keep keeps_func hw.chg) (hin0.keep keeps_int hw.chg) (hways.keep hw.chg)) ?_
    repeat (first | refine g_op rfl ?_ | refine g_then ?_ | refine g_nil ?_ | refine g_region ?_ | refine g_seq ?_ | refine g_alloc rfl fun _ _ => ?_ | refine g_storeAgg ?_)
    refine g_cond (fun h2 => ?_) (fun h2 => ?_)
    · repeat (first | refine g_then ?_ | refine g_nil ?_ | refine g_region ?_ | refine g_seq ?_ | refine g_opS rfl ?_ | refine g_ret ?_ | refine g_thenRet ?_)
      exact g_retV rfl rfl
    · exact absurd h2 (by simp [hbad])
  have hgood : (countsE a inp.length f).1 = 0 := by simpa using hbad
  refine g_callE (val := fun x : Option Addr × Nat × (Nat → Prop) => .tuple #[.agg #[.int .i64 (resultM a inp f).state, .int .i64 (resultM a inp f).value, .slice x.1 (resultM a inp f).out.length x.2.1, .int .i64 (resultM a inp f).steps], .agg #[.int .i64 0, .int .i64 0]]) (E := fun x => [⟨x.2.2, fun w => SlAt w (.slice x.1 (resultM a inp f).out.length x.2.1) 1 (resultM a inp f).out IntV⟩]) (φ := fun _ => True) rfl (fun w hw => do_ok a hla _ _ _ inp f hgood w (hga0.keep keeps_global hw.chg) (hfa0.keep keeps_func hw.chg) (hin0.keep keeps_int hw.chg) (hways.keep hw.chg)) fun x _ => ?_
  obtain ⟨oa, oc, op⟩ := x
  simp only [List.cons_append, List.nil_append]
  repeat (first | refine g_op rfl ?_ | refine g_then ?_ | refine g_nil ?_ | refine g_region ?_ | refine g_seq ?_ | refine g_alloc rfl fun _ _ => ?_ | refine g_storeAgg ?_ | refine g_skip ?_ | refine g_condF ?_)
  rw [show (!decide ((0 : Int) = 0)) = false by simp]
  skip
  refine g_cond (fun h3 => ?_) (fun h3 => ?_)
  · repeat (first | refine g_then ?_ | refine g_nil ?_ | refine g_region ?_ | refine g_seq ?_ | refine g_opS rfl ?_ | refine g_ret ?_ | refine g_thenRet ?_)
    exact g_retV rfl rfl
  obtain ⟨h4, h5, h6, h7⟩ := hsame f hf2 hgood (by simpa using h3)
  repeat (first | refine g_op rfl ?_ | refine g_then ?_ | refine g_region ?_ | refine g_seq ?_ | refine g_skip ?_)
  refine g_mul rfl (by omega) (by omega) ?_
  repeat (refine g_add rfl (by omega) (by omega) ?_)
  rw [show (20 : Int) * (f : Int) + 200 = ((20 * f + 200 : Nat) : Int) by omega]
  refine g_callE (val := fun x : Option Addr × Nat × (Nat → Prop) => .tuple #[.agg #[.int .i64 (resultM b inp (20 * f + 200)).state, .int .i64 (resultM b inp (20 * f + 200)).value, .slice x.1 (resultM b inp (20 * f + 200)).out.length x.2.1, .int .i64 (resultM b inp (20 * f + 200)).steps], .agg #[.int .i64 0, .int .i64 0]]) (E := fun x => [⟨x.2.2, fun w => SlAt w (.slice x.1 (resultM b inp (20 * f + 200)).out.length x.2.1) 1 (resultM b inp (20 * f + 200)).out IntV⟩]) (φ := fun _ => True) rfl (fun w hw => do_ok b hlb _ _ _ inp _ h4 w (hgb0.keep keeps_global hw.chg) (hfb0.keep keeps_func hw.chg) (hin0.keep keeps_int hw.chg) (hways.keep hw.chg)) fun x _ => ?_
  obtain ⟨na, nc, np⟩ := x
  simp only [List.cons_append, List.nil_append]
  rw [h5, h6, h7]
  repeat (first | refine g_op rfl ?_ | refine g_then ?_ | refine g_nil ?_ | refine g_region ?_ | refine g_seq ?_ | refine g_open ?_ | refine g_alloc rfl fun _ _ => ?_ | refine g_storeAgg ?_)
  rw [show decide ((0 : Int) = 0) = true by simp]
  skip
  refine g_callV rfl (fun w hw => comes_c _ _ _ _ _ _ _ _ _ w ?_ ?_) ?_
  · exact hw.get (k := 5) rfl
  · exact hw.get (k := 2) rfl
  repeat (first | refine g_op rfl ?_ | refine g_then ?_ | refine g_nil ?_ | refine g_opS rfl ?_ | refine g_ret ?_)
  exact g_retV rfl rfl
end Go.Proofs.YtbmnkjaelfjlhaaDoor


/- A function that begins by writing 0 into registers that nobody wrote yet: the run comes to the same. No program in sight. -/
namespace Go.Proofs.YtbmnkjaelfjlhaaDoor
open Go Go.RowKit

def blsOf (u : LUnit) (j : Nat) : List LBlock := match u.funcs[j]? with | some X => X.blocks | none => []
def regsOf (u : LUnit) (j : Nat) : Nat := match u.funcs[j]? with | some X => X.regs.toNat | none => 0
/-! ### The machine that has written them -/
theorem jumpM_def (u : LUnit) (s : Mac) (to : Int) : jumpM u s to = { s with top := { s.top with regs := phisM s.top ((preds (blsOf u s.top.fn) to.toNat).idxOf s.top.block) (phisOf (blsOf u s.top.fn) to.toNat), block := to.toNat, at' := 0 }, counts := bump s.counts s.top.fn to.toNat } := rfl
theorem enterM_def (u : LUnit) (s : Mac) (fn : Nat) (dst : Int) (args : List Int) : enterM u s fn dst args = { s with rest := s.rest ++ [s.top], top := ⟨fn, 0, 0, enterR (regsOf u fn) args, dst⟩, counts := bump s.counts fn 0 } := rfl
/-- it is so at the start of the function, and when it was entered -/
structure Fresh (k : Nat) (ns : List Nat) (s : Mac) : Prop where
  at' : s.top.at' = 0
  regs : s.top.fn = k ∧ s.top.block = 0 → ∀ z ∈ ns, s.top.regs.set z 0 = s.top.regs
section
variable {u : LUnit} {k : Nat} {ns : List Nat} {X : LFunc}
end
end Go.Proofs.YtbmnkjaelfjlhaaDoor


/- A function that begins by writing 0 into registers passes the check, too. No program in sight. -/
namespace Go.Proofs.YtbmnkjaelfjlhaaDoor
open Go Go.RowKit

theorem head_zero {names : List ByteArray} {f : LFunc} : headErr names f = 0 ↔ nameOk f.name = true ∧ hasName names f.name = false ∧ (0 ≤ f.params ∧ f.params ≤ 6) ∧ (f.params ≤ f.regs ∧ f.regs ≤ 100) ∧ (1 ≤ f.blocks.length ∧ f.blocks.length ≤ 40) ∧ sizeOfBs f.blocks ≤ 300 := by
  unfold headErr
  constructor
  · intro h
    split at h
    · cases h
    rename_i h1
    split at h
    · cases h
    rename_i h2
    split at h
    · cases h
    rename_i h3
    split at h
    · cases h
    rename_i h4
    simp [within] at h1 h2 h3 h4
    exact ⟨h1, h2, by omega, by omega, by omega, by omega⟩
  · rintro ⟨h1, h2, h3, h4, h5, h6⟩
    rw [if_neg (by simp [h1]), if_neg (by simp [h2]), if_neg (by simp [within]; omega), if_neg (by simp [within]; omega)]
theorem mainAt_map (fs : List LFunc) : mainAt fs = match (fs.map (·.name)).findIdx? (fun s => s.toList == (ByteArray.mk #[109, 97, 105, 110]).toList) with | some i => (i : Int) | none => -1 := by
  unfold mainAt
  rw [List.findIdx?_map]
  rfl
end Go.Proofs.YtbmnkjaelfjlhaaDoor


/- Rows of numbers as one reads them: what texts far from one another need. -/
namespace Go.Proofs.YtbmnkjaelfjlhaaDoor
open Go Go.RowKit
attribute [local irreducible] wpListIn Code.wpIn Exit.then Exit.inBlock bodyPost wpQuiet wpAnyIn wpAnyH bodyPostM
end Go.Proofs.YtbmnkjaelfjlhaaDoor


/- live.In as a table that is known. -/
namespace Go.Proofs.YtbmnkjaelfjlhaaDoor
open Go Go.RowKit

end Go.Proofs.YtbmnkjaelfjlhaaDoor

