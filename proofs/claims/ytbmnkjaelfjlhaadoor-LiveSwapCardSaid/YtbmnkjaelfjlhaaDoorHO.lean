/- Texts joined: SwapL. -/
import Derived.Test.YtbmnkjaelfjlhaaDoorGD
import Derived.Test.YtbmnkjaelfjlhaaDoorHG
import Derived.Test.YtbmnkjaelfjlhaaDoorHJ
import Derived.Test.YtbmnkjaelfjlhaaDoorHK
import Derived.Test.YtbmnkjaelfjlhaaDoorHN
/- The law LiveSwap, walked: a register that nobody needs there is nobody's. -/
namespace Go.Proofs.YtbmnkjaelfjlhaaDoor
open Go Go.RowKit
attribute [local irreducible] wpListIn Code.wpIn Exit.then Exit.inBlock bodyPost wpQuiet wpAnyIn wpAnyH bodyPostM oneH
set_option maxHeartbeats 8000000

theorem manyL_size (bl : List LBlock) : (manyL bl : Int) = sizeOfBs bl := by
  unfold manyL sizeOfBs
  induction bl with
  | nil => rfl
  | cons b l ih => simp only [List.map_cons, List.sum_cons]; omega
/-- the unit with other blocks for a function -/
def URow.withB (y : URow) (bs : List BRow) : URow := { y with bs := bs }
theorem put_self {m : UMem} {k : Nat} {y : URow} (hy : m.fs[k]? = some y) : m.put k (y.withB y.bs) = m := by
  have e : y.withB y.bs = y := rfl
  unfold UMem.put
  rw [e, set_self hy]
theorem put_put (m : UMem) (k : Nat) (y z : URow) : (m.put k y).put k z = m.put k z := by
  unfold UMem.put
  simp only [List.set_set]
theorem put_get {m : UMem} {k : Nat} {y z : URow} (hy : m.fs[k]? = some y) : (m.put k z).fs[k]? = some z := by
  unfold UMem.put
  rw [List.getElem?_set, if_pos rfl, if_pos (List.getElem?_eq_some_iff.1 hy).1]
def swRow (r : Nat) (n : Int) : IRow := ⟨swIns r n, none, 0⟩
theorem swTo_succ {b : Nat} {x : LIns} {bl : List LBlock} {a : Nat} {C : LBlock} (hC : bl[a]? = some C) : (bl.take (a + 1)).map (swB b x) ++ bl.drop (a + 1) = ((bl.take a).map (swB b x) ++ bl.drop a).set a (swB b x C) := by
  have hal := (List.getElem?_eq_some_iff.1 hC).1
  have hlt : (bl.take a).length = a := by rw [List.length_take]; omega
  apply List.ext_getElem?
  intro j
  rw [List.getElem?_set]
  by_cases e : a = j
  · subst e
    rw [if_pos rfl, if_pos (by rw [List.length_append, List.length_map, List.length_drop, hlt]; omega), List.getElem?_append_left (by rw [List.length_map, List.length_take]; omega), List.getElem?_map, List.getElem?_take_of_lt (by omega), hC]
    rfl
  · rw [if_neg e]
    by_cases h : j < a
    · rw [List.getElem?_append_left (by rw [List.length_map, List.length_take]; omega), List.getElem?_append_left (by rw [List.length_map]; omega), List.getElem?_map, List.getElem?_map, List.getElem?_take_of_lt (by omega), List.getElem?_take_of_lt h]
    · rw [List.getElem?_append_right (by rw [List.length_map, List.length_take]; omega), List.getElem?_append_right (by rw [List.length_map]; omega), List.length_map, List.length_map, hlt, List.length_take, Nat.min_eq_left (by omega), List.getElem?_drop, List.getElem?_drop]
      congr 1
      omega
theorem swTo_get {b : Nat} {x : LIns} {bl : List LBlock} {a j : Nat} (h : a ≤ bl.length) : ((bl.take a).map (swB b x) ++ bl.drop a)[j]? = if j < a then (bl[j]?).map (swB b x) else bl[j]? := by
  have hlt : (bl.take a).length = a := by rw [List.length_take]; omega
  by_cases hj : j < a
  · rw [if_pos hj, List.getElem?_append_left (by rw [List.length_map]; omega), List.getElem?_map, List.getElem?_take_of_lt hj]
  · rw [if_neg hj, List.getElem?_append_right (by rw [List.length_map]; omega), List.length_map, hlt, List.getElem?_drop]
    congr 1
    omega
theorem swapLaw_c (u : LUnit) (k : Int) (hk : inI k) (tb : Int) (_htb : inI tb) (rr : Int) (_hrr : inI rr) (n : Int) (hnI : inI n) (inp : List Int) (fuel : Int) (_hfu : inI fuel) (g fs iv : Value) (w0 : World) (hg : SlAt w0 g 3 u.globals GlobalV) (hf : SlAt w0 fs 4 u.funcs FuncV) (hin : SlAt w0 iv 1 inp IntV) (hways : CellsAt w0 0 0 waysC) :
    RetV Tryd.prog 9 [.agg #[g, fs], .int .i64 k, .int .i64 tb, .int .i64 rr, .int .i64 n, iv, .int .i64 fuel] w0 (.bool true) := by
  classical
  have hg0 := hg
  have hf0 := hf
  have hin0 := hin
  obtain ⟨ga, gn, gc, gb, go, rfl, _⟩ := hg
  obtain ⟨fa, fn, fc, fb, fo, rfl, hfn, hfnc, hfnb, hfc, hfa, hfel⟩ := hf
  obtain ⟨ia, il, ic, _, _, rfl, _⟩ := hin
  refine ret_enter Tryd.func9 rfl Tryd.ntmps9 rfl (Wd.nil NoS w0) ?_
  repeat (first | refine g_op rfl ?_ | refine g_then ?_ | refine g_nil ?_ | refine g_region ?_ | refine g_seq ?_ | refine g_box rfl fun _ _ => ?_)
  rename_i p7 _
  refine g_callE (val := fun b : Bool => .bool b) (E := fun _ => []) (φ := fun b => b = false → slim u) rfl (fun w hw => heavyS_c u _ _ w (hf0.keep keeps_func hw.chg) ⟨_, _, _, rfl⟩) fun b hb => ?_
  simp only [List.nil_append]
  cases b
  case true =>
    repeat (first | refine g_then ?_ | refine g_nil ?_ | refine g_region ?_ | refine g_seq ?_ | refine g_opS rfl ?_ | refine g_condT ?_ | refine g_ret ?_ | refine g_thenRet ?_)
    exact g_retV rfl rfl
  have hsl := hb rfl
  have hl := hsl.light
  repeat (first | refine g_op rfl ?_ | refine g_then ?_ | refine g_nil ?_ | refine g_region ?_ | refine g_seq ?_ | refine g_skip ?_ | refine g_condF ?_)
  by_cases hbad : (askedL u k).1 ≠ 0
  · refine g_callV rfl (fun w hw => in_bad u hl k hk hbad _ _ w (hg0.keep keeps_global hw.chg) (hf0.keep keeps_func hw.chg) (hways.keep hw.chg)) ?_
    repeat (first | refine g_op rfl ?_ | refine g_then ?_ | refine g_nil ?_ | refine g_region ?_ | refine g_seq ?_ | refine g_alloc rfl fun _ _ => ?_ | refine g_storeAgg ?_)
    refine g_cond (fun h1 => ?_) (fun h1 => ?_)
    · repeat (first | refine g_op rfl ?_ | refine g_then ?_ | refine g_nil ?_ | refine g_region ?_ | refine g_seq ?_ | refine g_opS rfl ?_ | refine g_ret ?_ | refine g_thenRet ?_)
      exact g_retV rfl rfl
    · exact absurd h1 (by simp [hbad])
  have hgood : (askedL u k).1 = 0 := by simpa using hbad
  obtain ⟨hch, has, i, X, rfl, hX, hok⟩ := asked_ok hgood
  have hpos := check_pos hch hX
  have hil : i < fn := by rw [hfn]; exact (List.getElem?_eq_some_iff.1 hX).1
  have had : AddrIs fa fb fo := ⟨hfa (ne_of_get hX)⟩
  have hli : LtIs i fn := ⟨hil⟩
  obtain ⟨fcs, hfcs, bv, rfl, hpi, hri, hbv⟩ := hfel i X hX
  have hci : CellsIs w0 fb (fo + i * 4) _ := ⟨hfcs⟩
  have hbv0 := hbv
  obtain ⟨ba, bn, bc, _, _, rfl, hbn, _⟩ := hbv
  obtain ⟨R, hXR, hR, hFO⟩ := check_func hch hX
  have hlim := check_lim hl hch X (List.mem_of_getElem? hX)
  refine g_callK (s := 1) (l := inG X.blocks X.regs.toNat) (V := RowV) (mk := fun v => .tuple #[v, .agg #[.int .i64 0, .int .i64 0]]) rfl (fun w hw => inKZ u hl i hgood X hX hch (by omega) _ _ w (hg0.keep keeps_global hw.chg) (hf0.keep keeps_func hw.chg) (hways.keep hw.chg)) fun na nc np => ?_
  rw [inG_lenZ, ← hbn]
  repeat (first | refine g_op rfl ?_ | refine g_then ?_ | refine g_nil ?_ | refine g_region ?_ | refine g_seq ?_ | refine g_open ?_ | refine g_alloc rfl fun _ _ => ?_ | refine g_storeAgg ?_ | refine g_skip ?_ | refine g_condF ?_)
  rename_i p16 _
  rw [show (!decide ((0 : Int) = 0)) = false by simp]
  skip
  rw [show decide ((i : Int) < 0) = false by simp]
  repeat (refine g_op rfl ?_)
  rw [show decide ((fn : Int) ≤ (i : Int)) = false by simp; omega]
  repeat (first | refine g_op rfl ?_ | refine g_then ?_ | refine g_nil ?_ | refine g_open ?_)
  rw [show (!decide ((bn : Int) = (bn : Int))) = false by simp]
  repeat (first | refine g_op rfl ?_ | refine g_then ?_ | refine g_region ?_ | refine g_seq ?_ | refine g_skip ?_ | refine g_condF ?_)
  by_cases hb0 : tb < 0
  · rw [show decide (tb < 0) = true by simp [hb0]]
    repeat (first | refine g_op rfl ?_ | refine g_then ?_ | refine g_nil ?_ | refine g_region ?_ | refine g_seq ?_ | refine g_opS rfl ?_ | refine g_pass rfl ?_ | refine g_condT ?_ | refine g_ret ?_ | refine g_thenRet ?_)
    exact g_retV rfl rfl
  rw [show decide (tb < 0) = false by simp [hb0]]
  repeat (first | refine g_op rfl ?_ | refine g_open ?_)
  by_cases hb1 : (bn : Int) ≤ tb
  · rw [show decide ((bn : Int) ≤ tb) = true by simp [hb1]]
    repeat (first | refine g_op rfl ?_ | refine g_then ?_ | refine g_nil ?_ | refine g_region ?_ | refine g_seq ?_ | refine g_opS rfl ?_ | refine g_pass rfl ?_ | refine g_condT ?_ | refine g_ret ?_ | refine g_thenRet ?_)
    exact g_retV rfl rfl
  rw [show decide ((bn : Int) ≤ tb) = false by simp [hb1]]
  repeat (first | refine g_op rfl ?_ | refine g_open ?_)
  by_cases hr0 : rr < 0
  · rw [show decide (rr < 0) = true by simp [hr0]]
    repeat (first | refine g_op rfl ?_ | refine g_then ?_ | refine g_nil ?_ | refine g_region ?_ | refine g_seq ?_ | refine g_opS rfl ?_ | refine g_pass rfl ?_ | refine g_condT ?_ | refine g_ret ?_ | refine g_thenRet ?_)
    exact g_retV rfl rfl
  rw [show decide (rr < 0) = false by simp [hr0]]
  repeat (first | refine g_op rfl ?_ | refine g_open ?_)
  by_cases hr1 : X.regs ≤ rr
  · rw [show decide (X.regs ≤ rr) = true by simp [hr1]]
    repeat (first | refine g_op rfl ?_ | refine g_then ?_ | refine g_nil ?_ | refine g_region ?_ | refine g_seq ?_ | refine g_opS rfl ?_ | refine g_pass rfl ?_ | refine g_condT ?_ | refine g_ret ?_ | refine g_thenRet ?_)
    exact g_retV rfl rfl
  rw [show decide (X.regs ≤ rr) = false by simp [hr1]]
  obtain ⟨b, rfl⟩ : ∃ b : Nat, tb = b := ⟨tb.toNat, by omega⟩
  obtain ⟨r, rfl⟩ : ∃ r : Nat, rr = r := ⟨rr.toNat, by omega⟩
  have hbl : b < X.blocks.length := by omega
  refine g_sel [2, 1] (by decide) ?_
  refine g_eqH (H1 := [Ent.box p7 [.slice ga gn gc, .slice fa fn fc] 25] ++ [(⟨np, fun w => SlAt w (.slice na bn nc) 1 (inG X.blocks X.regs.toNat) RowV⟩ : Ent)]) rfl ?_
  refine g_holdK fun w1 hw1 => ?_
  have hint : SlAt (killW (fps [Ent.box p7 [.slice ga gn gc, .slice fa fn fc] 25]) w1) (.slice na bn nc) 1 (inG X.blocks X.regs.toNat) RowV := hw1.beside (e := (⟨np, fun w => SlAt w (.slice na bn nc) 1 (inG X.blocks X.regs.toNat) RowV⟩ : Ent)) (by simp)
  have back : ∀ {E : List Ent} {w : World}, Wd (fps [Ent.box p7 [.slice ga gn gc, .slice fa fn fc] 25]) (killW (fps [Ent.box p7 [.slice ga gn gc, .slice fa fn fc] 25]) w1) E w → Wd NoS w0 (E ++ [(⟨np, fun w => SlAt w (.slice na bn nc) 1 (inG X.blocks X.regs.toNat) RowV⟩ : Ent)]) w := fun hw => hw1.comp hw.unkill
  have hkp : ∀ {E : List Ent} {w : World}, Wd (fps [Ent.box p7 [.slice ga gn gc, .slice fa fn fc] 25]) (killW (fps [Ent.box p7 [.slice ga gn gc, .slice fa fn fc] 25]) w1) E w → ∀ p v, (killW (fps [Ent.box p7 [.slice ga gn gc, .slice fa fn fc] 25]) w1).cell? p = some v → w.cell? p = some v := fun hw => hw.killKeep
  have hold : ∀ {b o : Nat} {v : Value} {l : List Value}, CellsAt (killW (fps [Ent.box p7 [.slice ga gn gc, .slice fa fn fc] 25]) w1) b o (v :: l) → OldIs (fps [Ent.box p7 [.slice ga gn gc, .slice fa fn fc] 25]) b := fun hc => killOldIs hc (by simp)
  have hcw := hfcs.keep hw1.killOld
  have hgk := hg0.keep keeps_global hw1.killOld
  have hfk := hf0.keep keeps_func hw1.killOld
  have hbk := hbv0.keep keeps_block hw1.killOld
  generalize killW (fps [Ent.box p7 [.slice ga gn gc, .slice fa fn fc] 25]) w1 = wk at *
  generalize fps [Ent.box p7 [.slice ga gn gc, .slice fa fn fc] 25] = SS at *
  have hciw : CellsIs wk fb (fo + i * 4) _ := ⟨hcw⟩
  have holf : OldIs SS fb := hold hcw
  have hns : (inG X.blocks X.regs.toNat)[b]? = some (intsL (liveN X.blocks X.regs.toNat (b, -1))) := inG_get hbl
  obtain ⟨nb, no, hadn, holn, hnel⟩ := tabK hint hold (List.ne_nil_of_mem (List.mem_of_getElem? hns))
  obtain ⟨ra, rc, hcir, hrow⟩ := hnel b _ hns
  have hlt0 : LtIs b bn := ⟨by omega⟩
  repeat (first | refine g_op rfl ?_ | refine g_open ?_)
  refine g_callV rfl (fun w hw => has_c _ _ _ w (hrow.le mono_int (hkp hw))) ?_
  by_cases hin1 : (r : Int) ∈ intsL (liveN X.blocks X.regs.toNat (b, -1))
  · rw [show decide ((r : Int) ∈ intsL (liveN X.blocks X.regs.toNat (b, -1))) = true by simp [hin1]]
    refine g_unhold back ?_
    repeat (first | refine g_op rfl ?_ | refine g_then ?_ | refine g_nil ?_ | refine g_region ?_ | refine g_seq ?_ | refine g_opS rfl ?_ | refine g_pass rfl ?_ | refine g_condT ?_ | refine g_ret ?_ | refine g_thenRet ?_)
    exact g_retV rfl rfl
  rw [show decide ((r : Int) ∈ intsL (liveN X.blocks X.regs.toNat (b, -1))) = false by simp [hin1]]
  have hsz := hsl.2 X (List.mem_of_getElem? hX)
  have hmz := manyL_size X.blocks
  have hsz1 := hsz.1
  have hsz2 := hsz.2
  repeat (first | refine g_op rfl ?_ | refine g_open ?_)
  refine g_callV rfl (fun w hw => many_c _ _ _ X.blocks _ w (hbk.le mono_block (hkp hw)) (by omega) fun B hB => ⟨(light_lens (hl.2 X (List.mem_of_getElem? hX)) B hB).2, (light_lens (hl.2 X (List.mem_of_getElem? hX)) B hB).1⟩) ?_
  repeat (first | refine g_op rfl ?_ | refine g_then ?_ | refine g_nil ?_ | refine g_open ?_ | refine g_add rfl (by omega) (by omega) ?_)
  rw [show decide ((300 : Int) < (manyL X.blocks : Int) + (bn : Int)) = false by simp; omega]
  repeat (first | refine g_op rfl ?_ | refine g_then ?_ | refine g_region ?_ | refine g_seq ?_ | refine g_skip ?_ | refine g_condF ?_)
  refine g_callE (val := UMem.val) (E := UMem.ents) (φ := fun m => m.unit = u ∧ m.Bd) rfl (fun w hw => unitR_c u (check_glim hch) (check_few hl) (check_lim hl hch) _ _ w (hgk.le mono_global (hkp hw)) (hfk.le mono_func (hkp hw))) fun m ⟨hmu, hmb⟩ => ?_
  unfold UMem.val
  repeat (first | refine g_op rfl ?_ | refine g_then ?_ | refine g_nil ?_ | refine g_region ?_ | refine g_seq ?_ | refine g_alloc rfl fun _ _ => ?_ | refine g_storeAgg ?_)
  rename_i p17 _
  obtain ⟨y, hy, hyX⟩ : ∃ y, m.fs[i]? = some y ∧ y.fn = X := by
    have h3 : (m.fs.map URow.fn)[i]? = some X := by rw [← hX, ← hmu]; rfl
    rw [List.getElem?_map] at h3
    exact Option.map_eq_some_iff.1 h3
  have hyb : y.bs.map BRow.blk = X.blocks := by rw [← hyX]; rfl
  have hyn : y.bs.length = X.blocks.length := by rw [← hyb, List.length_map]
  have hybd := (hmb.func y (List.mem_of_getElem? hy)).2
  have hilm : LtIs i m.fs.length := ⟨(List.getElem?_eq_some_iff.1 hy).1⟩
  refine g_vec 1 rfl (by have := hilm.lt; omega) fun vb vo hva => ?_
  rw [hva]
  have hoa : OwnAgg (Ent.box p17 [.slice m.ga m.gs.length m.gc, .slice (some ⟨vb, vo, none⟩) m.fs.length m.fc] 25 :: (m.ents ++ [Ent.box p7 [.slice ga gn gc, .slice fa fn fc] 25])) vb (vo + i * 4) [.string y.name, .int .i64 y.params, .int .i64 y.regs, .slice y.a y.bs.length y.c] := ⟨fun _ _ w hw j v hj => by
    have h5 := hw.vecCell (k := 1) (b := vb) (o := vo) (show _ = some (Ent.vec (some ⟨vb, vo, none⟩) m.fs.length m.fc 35 4 (m.fs.flatMap uC)) by rw [← hva]; rfl) (flat_at uC_len m.fs i y j v hy hj)
    rwa [← Nat.add_assoc] at h5⟩
  repeat (first | refine g_op rfl ?_ | refine g_then ?_ | refine g_nil ?_ | refine g_region ?_ | refine g_seq ?_ | refine g_alloc rfl fun _ _ => ?_ | refine g_storeAgg ?_ | refine g_block ?_)
  rename_i p18 _
  refine g_permH (H1 := [Ent.box p18 [.string y.name, .int .i64 y.params, .int .i64 y.regs, .slice y.a y.bs.length y.c] 35, Ent.box p17 [.slice m.ga m.gs.length m.gc, .slice (some ⟨vb, vo, none⟩) m.fs.length m.fc] 25, Ent.box p7 [.slice ga gn gc, .slice fa fn fc] 25] ++ m.ents) (((List.perm_append_comm (l₁ := m.ents) (l₂ := [Ent.box p7 [.slice ga gn gc, .slice fa fn fc] 25])).cons _).cons _) ?_
  refine g_fix (L' := [(19, .int .i64 0), (18, .pointer (some ⟨p18, 0, none⟩)), (17, .pointer (some ⟨p17, 0, none⟩)), (15, .slice na bn nc), (7, .pointer (some ⟨p7, 0, none⟩)), (1, .int .i64 i), (2, .int .i64 b), (3, .int .i64 r), (4, .int .i64 n), (5, .slice ia il ic), (6, .int .i64 fuel)]) (by repeat (first | exact trivial | refine ⟨rfl, ?_⟩)) (List.Sublist.refl _) ?_
  refine g_holdK fun w2 hw2 => ?_
  have hun : SlAt (killW (fps [Ent.box p18 [.string y.name, .int .i64 y.params, .int .i64 y.regs, .slice y.a y.bs.length y.c] 35, Ent.box p17 [.slice m.ga m.gs.length m.gc, .slice (some ⟨vb, vo, none⟩) m.fs.length m.fc] 25, Ent.box p7 [.slice ga gn gc, .slice fa fn fc] 25]) w2) (.slice y.a y.bs.length y.c) 6 X.blocks BlockV := by
    have h6 := hw2.besides
    rw [← hyb]
    exact h6.func (List.mem_cons_of_mem _ (List.mem_cons_of_mem _ (List.mem_append_right _ (List.mem_map.2 ⟨y, List.mem_of_getElem? hy, rfl⟩)))) (by omega) hybd
  have back2 : ∀ {E : List Ent} {w : World}, Wd (fps [Ent.box p18 [.string y.name, .int .i64 y.params, .int .i64 y.regs, .slice y.a y.bs.length y.c] 35, Ent.box p17 [.slice m.ga m.gs.length m.gc, .slice (some ⟨vb, vo, none⟩) m.fs.length m.fc] 25, Ent.box p7 [.slice ga gn gc, .slice fa fn fc] 25]) (killW (fps [Ent.box p18 [.string y.name, .int .i64 y.params, .int .i64 y.regs, .slice y.a y.bs.length y.c] 35, Ent.box p17 [.slice m.ga m.gs.length m.gc, .slice (some ⟨vb, vo, none⟩) m.fs.length m.fc] 25, Ent.box p7 [.slice ga gn gc, .slice fa fn fc] 25]) w2) E w → Wd SS wk (E ++ m.ents) w := fun hw => hw2.comp hw.unkill
  have hold2 : ∀ {b o : Nat} {v : Value} {l : List Value}, CellsAt (killW (fps [Ent.box p18 [.string y.name, .int .i64 y.params, .int .i64 y.regs, .slice y.a y.bs.length y.c] 35, Ent.box p17 [.slice m.ga m.gs.length m.gc, .slice (some ⟨vb, vo, none⟩) m.fs.length m.fc] 25, Ent.box p7 [.slice ga gn gc, .slice fa fn fc] 25]) w2) b o (v :: l) → OldIs (fps [Ent.box p18 [.string y.name, .int .i64 y.params, .int .i64 y.regs, .slice y.a y.bs.length y.c] 35, Ent.box p17 [.slice m.ga m.gs.length m.gc, .slice (some ⟨vb, vo, none⟩) m.fs.length m.fc] 25, Ent.box p7 [.slice ga gn gc, .slice fa fn fc] 25]) b := fun hc => killOldIs hc (by simp)
  generalize killW (fps [Ent.box p18 [.string y.name, .int .i64 y.params, .int .i64 y.regs, .slice y.a y.bs.length y.c] 35, Ent.box p17 [.slice m.ga m.gs.length m.gc, .slice (some ⟨vb, vo, none⟩) m.fs.length m.fc] 25, Ent.box p7 [.slice ga gn gc, .slice fa fn fc] 25]) w2 = wj at *
  generalize fps [Ent.box p18 [.string y.name, .int .i64 y.params, .int .i64 y.regs, .slice y.a y.bs.length y.c] 35, Ent.box p17 [.slice m.ga m.gs.length m.gc, .slice (some ⟨vb, vo, none⟩) m.fs.length m.fc] 25, Ent.box p7 [.slice ga gn gc, .slice fa fn fc] 25] = SJ at *
  obtain ⟨yb, yo, hady, holy, hyel⟩ := slKnown hun hold2 (fun _ _ h => by obtain ⟨p, l, t, e, _⟩ := h; exact ⟨_, _, e⟩) (by intro e; rw [e] at hpos; simp at hpos)
  obtain ⟨B, hB⟩ : ∃ B, X.blocks[b]? = some B := ⟨_, List.getElem?_eq_getElem hbl⟩
  obtain ⟨_, hciB, pv, lv, tv, rfl, _, _, hpv, _, _⟩ := hyel b B hB
  have hpv0 := hpv
  obtain ⟨pa, pn, pc, _, _, rfl, rfl, _⟩ := hpv
  have hlb : LtIs b y.bs.length := ⟨by omega⟩
  refine g_loop (fun q : Nat => q ≤ B.phis.length ∧ ∀ (s : Nat) p, s < q → B.phis[s]? = some p → ∀ v ∈ p.src, ¬ (v.reg = true ∧ v.n = r)) (fun q => [(19, .int .i64 q), (18, .pointer (some ⟨p18, 0, none⟩)), (17, .pointer (some ⟨p17, 0, none⟩)), (15, .slice na bn nc), (7, .pointer (some ⟨p7, 0, none⟩)), (1, .int .i64 i), (2, .int .i64 b), (3, .int .i64 r), (4, .int .i64 n), (5, .slice ia il ic), (6, .int .i64 fuel)]) (fun _ => [Ent.box p18 [.string y.name, .int .i64 y.params, .int .i64 y.regs, .slice y.a y.bs.length y.c] 35, Ent.box p17 [.slice m.ga m.gs.length m.gc, .slice (some ⟨vb, vo, none⟩) m.fs.length m.fc] 25, Ent.box p7 [.slice ga gn gc, .slice fa fn fc] 25]) (fun q => B.phis.length - q) 0 ⟨Nat.zero_le _, fun s p hs => by omega⟩ (g_done (by repeat (first | exact trivial | refine ⟨rfl, ?_⟩)) (List.Sublist.refl _)) fun q ⟨hq, hqa⟩ => ?_
  repeat (first | refine g_op rfl ?_ | refine g_then ?_ | refine g_nil ?_ | refine g_region ?_ | refine g_seq ?_)
  refine g_cond (fun h2 => ?_) (fun h2 => ?_)
  · have hqlt : q < B.phis.length := by simpa using h2
    obtain ⟨p, hp⟩ : ∃ p, B.phis[q]? = some p := ⟨_, List.getElem?_eq_getElem hqlt⟩
    obtain ⟨pb, po, hadp, holp, hpel⟩ := slKnown hpv0 hold2 (fun _ _ h => by obtain ⟨v, e, _⟩ := h; exact ⟨_, _, e⟩) (ne_of_get hp)
    obtain ⟨_, hcip, sv, rfl, _, hsv⟩ := hpel q p hp
    have hsv0 := hsv
    obtain ⟨sa, sn, sc, _, _, rfl, rfl, _⟩ := hsv
    have hlq : LtIs q B.phis.length := ⟨hqlt⟩
    repeat (first | refine g_op rfl ?_ | refine g_then ?_ | refine g_nil ?_ | refine g_region ?_ | refine g_seq ?_ | refine g_block ?_ | refine g_skip ?_)
    refine g_loop (fun j : Nat => j ≤ p.src.length ∧ ∀ (s : Nat) v, s < j → p.src[s]? = some v → ¬ (v.reg = true ∧ v.n = r)) (fun j => [(20, .int .i64 j), (19, .int .i64 q), (18, .pointer (some ⟨p18, 0, none⟩)), (17, .pointer (some ⟨p17, 0, none⟩)), (15, .slice na bn nc), (7, .pointer (some ⟨p7, 0, none⟩)), (1, .int .i64 i), (2, .int .i64 b), (3, .int .i64 r), (4, .int .i64 n), (5, .slice ia il ic), (6, .int .i64 fuel)]) (fun _ => [Ent.box p18 [.string y.name, .int .i64 y.params, .int .i64 y.regs, .slice y.a y.bs.length y.c] 35, Ent.box p17 [.slice m.ga m.gs.length m.gc, .slice (some ⟨vb, vo, none⟩) m.fs.length m.fc] 25, Ent.box p7 [.slice ga gn gc, .slice fa fn fc] 25]) (fun j => p.src.length - j) 0 ⟨Nat.zero_le _, fun s v hs => by omega⟩ (g_done (by repeat (first | exact trivial | refine ⟨rfl, ?_⟩)) (List.Sublist.refl _)) fun j ⟨hj, hja⟩ => ?_
    repeat (first | refine g_op rfl ?_ | refine g_then ?_ | refine g_nil ?_ | refine g_region ?_ | refine g_seq ?_)
    refine g_cond (fun h3 => ?_) (fun h3 => ?_)
    · have hjlt : j < p.src.length := by simpa using h3
      obtain ⟨v, hv⟩ : ∃ v, p.src[j]? = some v := ⟨_, List.getElem?_eq_getElem hjlt⟩
      obtain ⟨sb, so, hads, hols, hsel⟩ := slKnown hsv0 hold2 (fun _ _ h => ⟨_, _, h.1⟩) (ne_of_get hv)
      obtain ⟨_, hciv, rfl, _⟩ := hsel j v hv
      have hlj : LtIs j p.src.length := ⟨hjlt⟩
      repeat (first | refine g_op rfl ?_ | refine g_then ?_ | refine g_nil ?_ | refine g_region ?_ | refine g_seq ?_ | refine g_block ?_ | refine g_skip ?_)
      refine g_cond (fun h4 => ?_) (fun h4 => ?_)
      · refine g_unhold back2 ?_
        refine g_unhold back ?_
        repeat (first | refine g_op rfl ?_ | refine g_then ?_ | refine g_nil ?_ | refine g_region ?_ | refine g_seq ?_ | refine g_ret ?_ | refine g_thenRet ?_ | refine g_blockRet ?_)
        exact g_retV rfl rfl
      · repeat (first | refine g_op rfl ?_ | refine g_then ?_ | refine g_nil ?_ | refine g_region ?_ | refine g_opS rfl ?_ | refine g_inBlock ?_ | refine g_skip ?_ | refine g_add rfl (by omega) (by omega) ?_)
        rw [show (j : Int) + 1 = ((j + 1 : Nat) : Int) by omega]
        refine g_next (j + 1) ⟨hjlt, fun s z hs hz hh => ?_⟩ (by omega) (by repeat (first | exact trivial | refine ⟨rfl, ?_⟩)) (List.Sublist.refl _)
        by_cases e : s = j
        · subst e
          rw [hv] at hz
          obtain rfl := Option.some.inj hz
          simp [hh.1, hh.2] at h4
        · exact hja s z (by omega) hz hh
    have hje : j = p.src.length := by have := h3; simp at this; omega
    repeat (first | refine g_op rfl ?_ | refine g_then ?_ | refine g_nil ?_ | refine g_region ?_ | refine g_opS rfl ?_ | refine g_inBlock ?_ | refine g_add rfl (by omega) (by omega) ?_ | refine g_exit ?_ | refine g_thenExit ?_ | refine g_exitHere ?_)
    rw [show (q : Int) + 1 = ((q + 1 : Nat) : Int) by omega]
    refine g_next (q + 1) ⟨hqlt, fun s z hs hz v hv hh => ?_⟩ (by omega) (by repeat (first | exact trivial | refine ⟨rfl, ?_⟩)) (List.Sublist.refl _)
    by_cases e : s = q
    · subst e
      rw [hp] at hz
      obtain rfl := Option.some.inj hz
      obtain ⟨s, hs⟩ := List.getElem?_of_mem hv
      exact hja s v (by have := (List.getElem?_eq_some_iff.1 hs).1; omega) hs hh
    · exact hqa s z (by omega) hz v hv hh
  have hqe : q = B.phis.length := by have := h2; simp at this; omega
  refine g_unhold back2 ?_
  repeat (first | refine g_op rfl ?_ | refine g_then ?_ | refine g_nil ?_ | refine g_region ?_ | refine g_seq ?_ | refine g_block ?_ | refine g_exit ?_ | refine g_thenExit ?_ | refine g_exitHere ?_)
  obtain ⟨bs0, hbs0⟩ : ∃ bs0, bs0 = y.bs := ⟨_, rfl⟩
  have hXl : ∀ (j : Nat) (C : LBlock), X.blocks[j]? = some C → C.list.length ≤ 120 := fun j C hC => by
    have h6 := list_size (List.mem_of_getElem? hC)
    omega
  have hm0 : m.put i (y.withB bs0) = m := by rw [hbs0]; exact put_self hy
  refine g_eqH (H1 := Ent.box p18 [.string y.name, .int .i64 y.params, .int .i64 y.regs, .slice y.a y.bs.length y.c] 35 :: Ent.box p17 [.slice m.ga m.gs.length m.gc, .slice (some ⟨vb, vo, none⟩) m.fs.length m.fc] 25 :: Ent.box p7 [.slice ga gn gc, .slice fa fn fc] 25 :: (m.put i (y.withB bs0)).ents) (by rw [hm0]; rfl) ?_
  refine g_loop (fun x : Nat × List BRow => x.1 ≤ X.blocks.length ∧ x.2.length = y.bs.length ∧ x.2.map BRow.blk = (X.blocks.take x.1).map (swB b (swIns r n)) ++ X.blocks.drop x.1 ∧ ∀ c ∈ x.2, c.Bd) (fun x => [(21, .int .i64 x.1), (18, .pointer (some ⟨p18, 0, none⟩)), (17, .pointer (some ⟨p17, 0, none⟩)), (15, .slice na bn nc), (7, .pointer (some ⟨p7, 0, none⟩)), (1, .int .i64 i), (2, .int .i64 b), (3, .int .i64 r), (4, .int .i64 n), (5, .slice ia il ic), (6, .int .i64 fuel)]) (fun x => Ent.box p18 [.string y.name, .int .i64 y.params, .int .i64 y.regs, .slice y.a y.bs.length y.c] 35 :: Ent.box p17 [.slice m.ga m.gs.length m.gc, .slice (some ⟨vb, vo, none⟩) m.fs.length m.fc] 25 :: Ent.box p7 [.slice ga gn gc, .slice fa fn fc] 25 :: ((m.put i (y.withB x.2))).ents) (fun x => X.blocks.length - x.1) (0, bs0) ⟨Nat.zero_le _, by rw [hbs0], by rw [hbs0, hyb]; simp, by rw [hbs0]; exact hybd⟩ (g_done (by repeat (first | exact trivial | refine ⟨rfl, ?_⟩)) (List.Sublist.refl _)) fun x ⟨hx1, hx2, hx3, hx4⟩ => ?_
  obtain ⟨a, bs⟩ := x
  simp only at hx1 hx2 hx3 hx4 ⊢
  repeat (first | refine g_op rfl ?_ | refine g_then ?_ | refine g_nil ?_ | refine g_region ?_ | refine g_seq ?_)
  refine g_cond (fun h3 => ?_) (fun h3 => ?_)
  · have halt : a < X.blocks.length := by rw [← hyn]; simpa using h3
    obtain ⟨C, hC⟩ : ∃ C, X.blocks[a]? = some C := ⟨_, List.getElem?_eq_getElem halt⟩
    obtain ⟨c, hc, hcC⟩ : ∃ c, bs[a]? = some c ∧ c.blk = C := by
      have h4 : (bs.map BRow.blk)[a]? = _ := congrArg (fun l => l[a]?) hx3
      rw [swTo_get hx1, if_neg (by omega), List.getElem?_map, hC] at h4
      exact Option.map_eq_some_iff.1 h4
    have hcb := hx4 c (List.mem_of_getElem? hc)
    have hcl : c.xs.length ≤ 120 := by
      have h5 := hXl a C hC
      rw [← hcC] at h5
      simpa [BRow.blk] using h5
    obtain ⟨mm, hmm⟩ : ∃ mm, mm = m.put i (y.withB bs) := ⟨_, rfl⟩
    have hyy : mm.fs[i]? = some (y.withB bs) := by rw [hmm]; exact put_get hy
    have hwb : (y.withB bs).bs = bs := rfl
    rw [← hmm]
    refine g_wd (H' := Ent.box p18 [.string y.name, .int .i64 y.params, .int .i64 y.regs, .slice y.a y.bs.length y.c] 35 :: Ent.box p17 [.slice m.ga m.gs.length m.gc, .slice (some ⟨vb, vo, none⟩) m.fs.length m.fc] 25 :: Ent.box p7 [.slice ga gn gc, .slice fa fn fc] 25 :: bvE (y.withB bs) :: tvE c :: lvE c :: fvE mm :: (gvE mm :: pvE c :: (c.xs.map roE ++ (mm.gs.map gloE ++ ((mm.fs.eraseIdx i).map uE ++ ((bs.eraseIdx a).map blkE ++ c.ps.map phE)))))) (fun w hw => ?_) ?_
    · have h4 : Wd SS wk (mm.ents ++ [Ent.box p18 [.string y.name, .int .i64 y.params, .int .i64 y.regs, .slice y.a y.bs.length y.c] 35, Ent.box p17 [.slice m.ga m.gs.length m.gc, .slice (some ⟨vb, vo, none⟩) m.fs.length m.fc] 25, Ent.box p7 [.slice ga gn gc, .slice fa fn fc] 25]) w := hw.perm (List.perm_append_comm (l₁ := [_, _, _]))
      refine (h4.uopen hyy hc).perm ?_
      unfold restE
      classical
      refine List.perm_iff_count.2 fun e => ?_
      simp only [hwb, List.count_append, List.count_cons, List.count_nil]
      omega
    have hbe : bvE (y.withB bs) = Ent.vec y.a bs.length y.c 47 6 (bs.flatMap blkC) := rfl
    rw [hbe, hx2]
    refine g_vec 3 rfl (by omega) fun bb bo hba => ?_
    rw [hba]
    have hla : LtIs a y.bs.length := ⟨by omega⟩
    have hoc1 : OwnCell (Ent.box p18 [.string y.name, .int .i64 y.params, .int .i64 y.regs, .slice (some ⟨bb, bo, none⟩) y.bs.length y.c] 35 :: Ent.box p17 [.slice m.ga m.gs.length m.gc, .slice (some ⟨vb, vo, none⟩) m.fs.length m.fc] 25 :: Ent.box p7 [.slice ga gn gc, .slice fa fn fc] 25 :: Ent.vec (some ⟨bb, bo, none⟩) y.bs.length y.c 47 6 (bs.flatMap blkC) :: tvE c :: lvE c :: fvE mm :: (gvE mm :: pvE c :: (c.xs.map roE ++ (mm.gs.map gloE ++ ((mm.fs.eraseIdx i).map uE ++ ((bs.eraseIdx a).map blkE ++ c.ps.map phE)))))) bb (bo + a * 6 + 2) (.int .i64 c.kind) := ⟨fun _ _ _ hw => by
      have h5 := hw.vecCell (k := 3) rfl (flat_at blkC_len bs a c 2 _ hc rfl)
      rwa [← Nat.add_assoc] at h5⟩
    have hoc2 : OwnCell (Ent.box p18 [.string y.name, .int .i64 y.params, .int .i64 y.regs, .slice (some ⟨bb, bo, none⟩) y.bs.length y.c] 35 :: Ent.box p17 [.slice m.ga m.gs.length m.gc, .slice (some ⟨vb, vo, none⟩) m.fs.length m.fc] 25 :: Ent.box p7 [.slice ga gn gc, .slice fa fn fc] 25 :: Ent.vec (some ⟨bb, bo, none⟩) y.bs.length y.c 47 6 (bs.flatMap blkC) :: tvE c :: lvE c :: fvE mm :: (gvE mm :: pvE c :: (c.xs.map roE ++ (mm.gs.map gloE ++ ((mm.fs.eraseIdx i).map uE ++ ((bs.eraseIdx a).map blkE ++ c.ps.map phE)))))) bb (bo + a * 6 + 5) (.slice c.ta c.to.length c.tc) := ⟨fun _ _ _ hw => by
      have h5 := hw.vecCell (k := 3) rfl (flat_at blkC_len bs a c 5 _ hc rfl)
      rwa [← Nat.add_assoc] at h5⟩
    repeat (first | refine g_op rfl ?_ | refine g_then ?_ | refine g_region ?_ | refine g_seq ?_ | refine g_block ?_ | refine g_skip ?_)
    have hstay : leadsTo b C = false → bs.map BRow.blk = (X.blocks.take (a + 1)).map (swB b (swIns r n)) ++ X.blocks.drop (a + 1) := fun hld => by
      rw [swTo_succ hC, ← hx3]
      have e : swB b (swIns r n) C = C := by unfold swB; rw [hld]; rfl
      rw [e]
      refine (set_self ?_).symm
      rw [List.getElem?_map, hc, Option.map_some, hcC]
    have hkC : C.kind = c.kind := by rw [← hcC]; rfl
    have htC : C.to = c.to := by rw [← hcC]; rfl
    have hclose : ∀ w, Wd SS wk (Ent.box p18 [.string y.name, .int .i64 y.params, .int .i64 y.regs, .slice (some ⟨bb, bo, none⟩) y.bs.length y.c] 35 :: Ent.box p17 [.slice m.ga m.gs.length m.gc, .slice (some ⟨vb, vo, none⟩) m.fs.length m.fc] 25 :: Ent.box p7 [.slice ga gn gc, .slice fa fn fc] 25 :: Ent.vec (some ⟨bb, bo, none⟩) y.bs.length y.c 47 6 (bs.flatMap blkC) :: tvE c :: lvE c :: fvE mm :: (gvE mm :: pvE c :: (c.xs.map roE ++ (mm.gs.map gloE ++ ((mm.fs.eraseIdx i).map uE ++ ((bs.eraseIdx a).map blkE ++ c.ps.map phE)))))) w → Wd SS wk (Ent.box p18 [.string y.name, .int .i64 y.params, .int .i64 y.regs, .slice (some ⟨bb, bo, none⟩) y.bs.length y.c] 35 :: Ent.box p17 [.slice m.ga m.gs.length m.gc, .slice (some ⟨vb, vo, none⟩) m.fs.length m.fc] 25 :: Ent.box p7 [.slice ga gn gc, .slice fa fn fc] 25 :: (m.put i (y.withB bs)).ents) w := fun w hw => by
      rw [← hmm]
      refine Wd.perm (H := mm.ents ++ [Ent.box p18 [.string y.name, .int .i64 y.params, .int .i64 y.regs, .slice (some ⟨bb, bo, none⟩) y.bs.length y.c] 35, Ent.box p17 [.slice m.ga m.gs.length m.gc, .slice (some ⟨vb, vo, none⟩) m.fs.length m.fc] 25, Ent.box p7 [.slice ga gn gc, .slice fa fn fc] 25]) (Wd.ushut (hw.perm ?_) hyy hc) (List.perm_append_comm (l₂ := [_, _, _]))
      unfold restE
      rw [hbe, hx2, hba]
      classical
      refine List.perm_iff_count.2 fun e => ?_
      simp only [hwb, List.count_append, List.count_cons, List.count_nil]
      omega
    by_cases hk2 : ¬ c.kind = 2
    · rw [show decide (c.kind = 2) = false by simp [hk2]]
      repeat (first | refine g_op rfl ?_ | refine g_then ?_ | refine g_nil ?_ | refine g_region ?_ | refine g_opS rfl ?_ | refine g_pass rfl ?_ | refine g_inBlock ?_ | refine g_skip ?_ | refine g_condF ?_ | refine g_add rfl (by omega) (by omega) ?_)
      rw [show (a : Int) + 1 = ((a + 1 : Nat) : Int) by omega]
      refine g_wd hclose ?_
      refine g_next (a + 1, bs) ⟨halt, hx2, hstay ?_, hx4⟩ (by simp only; omega) (by repeat (first | exact trivial | refine ⟨rfl, ?_⟩)) (List.Sublist.refl _)
      unfold leadsTo
      rw [hkC]
      simp [hk2]
    have hk2 : c.kind = 2 := by simpa using hk2
    rw [show decide (c.kind = 2) = true by simp [hk2]]
    have hto1 : c.to.length = 1 := by
      obtain ⟨R', hfit⟩ := (unit_fit hl hch (nums_of hf0)).2 i X hX
      have h6 := (hfit.blk C (List.mem_of_getElem? hC)).kind.2
      rw [htC, hkC, hk2] at h6
      omega
    obtain ⟨t, ht⟩ : ∃ t, c.to = [t] := List.length_eq_one_iff.1 hto1
    refine g_vec 4 (show _ = some (Ent.vec c.ta c.to.length c.tc 3 1 (c.to.map (.int .i64))) from rfl) (by omega) fun zb zo hza => ?_
    have hte : tvE c = Ent.vec (some ⟨zb, zo, none⟩) c.to.length c.tc 3 1 (c.to.map (.int .i64)) := by unfold tvE; rw [hza]
    rw [hte]
    rw [hte, hza] at hoc2
    rw [hte] at hoc1 hclose
    have hel : ElAt c.to 0 t := ⟨by rw [ht]; rfl⟩
    have hlt2 : LtIs 0 c.to.length := ⟨by omega⟩
    repeat (first | refine g_op rfl ?_ | refine g_then ?_ | refine g_nil ?_ | refine g_open ?_)
    by_cases htb : ¬ t = (b : Int)
    · rw [show decide (t = (b : Int)) = false by simp [htb]]
      repeat (first | refine g_op rfl ?_ | refine g_then ?_ | refine g_nil ?_ | refine g_region ?_ | refine g_opS rfl ?_ | refine g_inBlock ?_ | refine g_skip ?_ | refine g_condF ?_ | refine g_add rfl (by omega) (by omega) ?_)
      rw [show (a : Int) + 1 = ((a + 1 : Nat) : Int) by omega]
      refine g_wd hclose ?_
      refine g_next (a + 1, bs) ⟨halt, hx2, hstay ?_, hx4⟩ (by simp only; omega) (by repeat (first | exact trivial | refine ⟨rfl, ?_⟩)) (List.Sublist.refl _)
      unfold leadsTo
      rw [htC, ht]
      simp [htb]
    have htb : t = (b : Int) := by simpa using htb
    rw [show decide (t = (b : Int)) = true by simp [htb]]
    repeat (refine g_condT ?_)
    have hlv : lvE c = Ent.vec c.la c.xs.length c.lc 71 8 (c.xs.flatMap rowC) := rfl
    rw [hlv]
    have hoc3 : ∀ H : List Ent, OwnCell (Ent.box p18 [.string y.name, .int .i64 y.params, .int .i64 y.regs, .slice (some ⟨bb, bo, none⟩) y.bs.length y.c] 35 :: Ent.box p17 [.slice m.ga m.gs.length m.gc, .slice (some ⟨vb, vo, none⟩) m.fs.length m.fc] 25 :: Ent.box p7 [.slice ga gn gc, .slice fa fn fc] 25 :: Ent.vec (some ⟨bb, bo, none⟩) y.bs.length y.c 47 6 (bs.flatMap blkC) :: H) bb (bo + a * 6 + 1) (.slice c.la c.xs.length c.lc) := fun H => ⟨fun _ _ _ hw => by
      have h5 := hw.vecCell (k := 3) rfl (flat_at blkC_len bs a c 1 _ hc rfl)
      rwa [← Nat.add_assoc] at h5⟩
    have hoat : ∀ (X Y Z : Ent) (H : List Ent), OwnAt (X :: Ent.box p18 [.string y.name, .int .i64 y.params, .int .i64 y.regs, .slice (some ⟨bb, bo, none⟩) y.bs.length y.c] 35 :: Ent.box p17 [.slice m.ga m.gs.length m.gc, .slice (some ⟨vb, vo, none⟩) m.fs.length m.fc] 25 :: Ent.box p7 [.slice ga gn gc, .slice fa fn fc] 25 :: Ent.vec (some ⟨bb, bo, none⟩) y.bs.length y.c 47 6 (bs.flatMap blkC) :: Y :: Z :: H) bb (bo + a * 6 + 1) 4 bo (a * 6 + 1) y.bs.length y.c 47 6 (bs.flatMap blkC) := fun X Y Z H => ⟨rfl, by omega⟩
    have hxl : c.xs.length + 1 = ((c.xs ++ [swRow r n])).length := by rw [List.length_append]; rfl
    have hxf : c.xs.flatMap rowC ++ rowC (swRow r n) = ((c.xs ++ [swRow r n])).flatMap rowC := by rw [List.flatMap_append]; simp
    refine g_fix (L' := [(21, .int .i64 a), (18, .pointer (some ⟨p18, 0, none⟩)), (17, .pointer (some ⟨p17, 0, none⟩)), (15, .slice na bn nc), (7, .pointer (some ⟨p7, 0, none⟩)), (1, .int .i64 i), (2, .int .i64 b), (3, .int .i64 r), (4, .int .i64 n), (5, .slice ia il ic), (6, .int .i64 fuel)]) (by repeat (first | exact trivial | refine ⟨rfl, ?_⟩)) (List.Sublist.refl _) ?_
    refine g_drawX (Ent.box p18 [.string y.name, .int .i64 y.params, .int .i64 y.regs, .slice (some ⟨bb, bo, none⟩) y.bs.length y.c] 35 :: Ent.box p17 [.slice m.ga m.gs.length m.gc, .slice (some ⟨vb, vo, none⟩) m.fs.length m.fc] 25 :: Ent.box p7 [.slice ga gn gc, .slice fa fn fc] 25 :: Ent.vec (some ⟨zb, zo, none⟩) c.to.length c.tc 3 1 (c.to.map (.int .i64)) :: fvE mm :: (gvE mm :: pvE c :: (c.xs.map roE ++ (mm.gs.map gloE ++ ((mm.fs.eraseIdx i).map uE ++ ((bs.eraseIdx a).map blkE ++ c.ps.map phE)))))) (fun _ : Option Addr × Nat => True) (fun _ => [(21, .int .i64 a), (18, .pointer (some ⟨p18, 0, none⟩)), (17, .pointer (some ⟨p17, 0, none⟩)), (15, .slice na bn nc), (7, .pointer (some ⟨p7, 0, none⟩)), (1, .int .i64 i), (2, .int .i64 b), (3, .int .i64 r), (4, .int .i64 n), (5, .slice ia il ic), (6, .int .i64 fuel)]) (fun x => Ent.box p18 [.string y.name, .int .i64 y.params, .int .i64 y.regs, .slice (some ⟨bb, bo, none⟩) y.bs.length y.c] 35 :: Ent.box p17 [.slice m.ga m.gs.length m.gc, .slice (some ⟨vb, vo, none⟩) m.fs.length m.fc] 25 :: Ent.box p7 [.slice ga gn gc, .slice fa fn fc] 25 :: Ent.vec (some ⟨bb, bo, none⟩) y.bs.length y.c 47 6 ((bs.set a (putLs c x.1 x.2 (c.xs ++ [swRow r n]))).flatMap blkC) :: Ent.vec (some ⟨zb, zo, none⟩) c.to.length c.tc 3 1 (c.to.map (.int .i64)) :: Ent.vec x.1 ((c.xs ++ [swRow r n])).length x.2 71 8 (((c.xs ++ [swRow r n])).flatMap rowC) :: fvE mm :: (gvE mm :: pvE c :: (c.xs.map roE ++ (mm.gs.map gloE ++ ((mm.fs.eraseIdx i).map uE ++ ((bs.eraseIdx a).map blkE ++ c.ps.map phE)))))) mixed (by repeat (first | exact List.Sublist.refl _ | refine List.Sublist.cons_cons _ ?_ | refine List.Sublist.cons _ ?_)) ?_ fun x _ => ?_
    · skip
      refine h_take 0 rfl (by decide +kernel) (by repeat (first | exact List.Sublist.refl _ | refine List.Sublist.cons_cons _ ?_ | refine List.Sublist.cons _ ?_)) ?_
      refine h_take 1 rfl (by decide +kernel) (by repeat (first | exact List.Sublist.refl _ | refine List.Sublist.cons_cons _ ?_ | refine List.Sublist.cons _ ?_)) ?_
      refine h_take 2 rfl (by decide +kernel) (by repeat (first | exact List.Sublist.refl _ | refine List.Sublist.cons_cons _ ?_ | refine List.Sublist.cons _ ?_)) ?_
      refine h_take 3 rfl (by decide +kernel) (by repeat (first | exact List.Sublist.refl _ | refine List.Sublist.cons_cons _ ?_ | refine List.Sublist.cons _ ?_)) ?_
      refine h_take 4 rfl (by decide +kernel) (by repeat (first | exact List.Sublist.refl _ | refine List.Sublist.cons_cons _ ?_ | refine List.Sublist.cons _ ?_)) ?_
      refine h_take 5 rfl (by decide +kernel) (by repeat (first | exact List.Sublist.refl _ | refine List.Sublist.cons_cons _ ?_ | refine List.Sublist.cons _ ?_)) ?_
      refine h_take 6 rfl (by decide +kernel) (by repeat (first | exact List.Sublist.refl _ | refine List.Sublist.cons_cons _ ?_ | refine List.Sublist.cons _ ?_)) ?_
      refine h_take 7 rfl (by decide +kernel) (by repeat (first | exact List.Sublist.refl _ | refine List.Sublist.cons_cons _ ?_ | refine List.Sublist.cons _ ?_)) ?_
      refine h_take 9 rfl (by decide +kernel) (by repeat (first | exact List.Sublist.refl _ | refine List.Sublist.cons_cons _ ?_ | refine List.Sublist.cons _ ?_)) ?_
      refine h_take 10 rfl (by decide +kernel) (by repeat (first | exact List.Sublist.refl _ | refine List.Sublist.cons_cons _ ?_ | refine List.Sublist.cons _ ?_)) ?_
      refine h_take 11 rfl (by decide +kernel) (by repeat (first | exact List.Sublist.refl _ | refine List.Sublist.cons_cons _ ?_ | refine List.Sublist.cons _ ?_)) ?_
      refine h_take 12 rfl (by decide +kernel) (by repeat (first | exact List.Sublist.refl _ | refine List.Sublist.cons_cons _ ?_ | refine List.Sublist.cons _ ?_)) ?_
      refine h_two 8 13 (by decide +kernel) ?_ ?_
      · skip
        refine o_op 8 rfl (by repeat (first | exact List.Sublist.refl _ | refine List.Sublist.cons_cons _ ?_ | refine List.Sublist.cons _ ?_)) ?_
        refine h_one 13 (by decide +kernel) ?_
        refine o_build1 13 rfl (by decide +kernel) (by repeat (first | exact List.Sublist.refl _ | refine List.Sublist.cons_cons _ ?_ | refine List.Sublist.cons _ ?_)) fun _ _ => ?_
        refine h_append 14 6 rfl rfl (by decide +kernel) (by omega) (by omega) (by decide +kernel) (fun _ => by simp only [List.set_cons_zero, List.set_cons_succ]; repeat (first | exact List.Sublist.refl _ | refine List.Sublist.cons_cons _ ?_ | refine List.Sublist.cons _ ?_)) fun na' nc' => ?_
        simp only [List.set_cons_zero, List.set_cons_succ]
        have hxs : XSet (bs.flatMap blkC) (a * 6 + 1) (.slice na' (c.xs.length + 1) nc') ((bs.set a (putLs c na' nc' (c.xs ++ [swRow r n]))).flatMap blkC) := ⟨flat_set blkC_len hc (k := 1) (by omega) (by rw [hxl]; rfl), by
          rw [flat_len blkC_len, hx2]
          have := Nat.mul_lt_mul_of_pos_right hla.lt (show 0 < 6 by omega)
          omega⟩
        refine h_take 15 rfl (by decide +kernel) (by repeat (first | exact List.Sublist.refl _ | refine List.Sublist.cons_cons _ ?_ | refine List.Sublist.cons _ ?_)) ?_
        refine h_take 16 rfl (by decide +kernel) (by repeat (first | exact List.Sublist.refl _ | refine List.Sublist.cons_cons _ ?_ | refine List.Sublist.cons _ ?_)) ?_
        refine h_storeV 17 (by decide +kernel) (by decide +kernel) (by repeat (first | exact List.Sublist.refl _ | refine List.Sublist.cons_cons _ ?_ | refine List.Sublist.cons _ ?_)) ?_
        refine g_eqH (H1 := _ :: Ent.box p18 [.string y.name, .int .i64 y.params, .int .i64 y.regs, .slice (some ⟨bb, bo, none⟩) y.bs.length y.c] 35 :: Ent.box p17 [.slice m.ga m.gs.length m.gc, .slice (some ⟨vb, vo, none⟩) m.fs.length m.fc] 25 :: Ent.box p7 [.slice ga gn gc, .slice fa fn fc] 25 :: Ent.vec (some ⟨bb, bo, none⟩) y.bs.length y.c 47 6 ((bs.set a (putLs c na' nc' (c.xs ++ [swRow r n]))).flatMap blkC) :: Ent.vec (some ⟨zb, zo, none⟩) c.to.length c.tc 3 1 (c.to.map (.int .i64)) :: Ent.vec na' ((c.xs ++ [swRow r n])).length nc' 71 8 (((c.xs ++ [swRow r n])).flatMap rowC) :: fvE mm :: (gvE mm :: pvE c :: (c.xs.map roE ++ (mm.gs.map gloE ++ ((mm.fs.eraseIdx i).map uE ++ ((bs.eraseIdx a).map blkE ++ c.ps.map phE)))))) (by rw [← hxl, ← hxf]; rfl) ?_
        exact g_mem (na', nc') trivial (by repeat (first | exact trivial | refine ⟨rfl, ?_⟩)) (List.Sublist.cons _ (List.Sublist.refl _))
      · skip
        refine o_build1 13 rfl (by decide +kernel) (by repeat (first | exact List.Sublist.refl _ | refine List.Sublist.cons_cons _ ?_ | refine List.Sublist.cons _ ?_)) fun _ _ => ?_
        refine h_one 8 (by decide +kernel) ?_
        refine o_op 8 rfl (by repeat (first | exact List.Sublist.refl _ | refine List.Sublist.cons_cons _ ?_ | refine List.Sublist.cons _ ?_)) ?_
        refine h_append 14 6 rfl rfl (by decide +kernel) (by omega) (by omega) (by decide +kernel) (fun _ => by simp only [List.set_cons_zero, List.set_cons_succ]; repeat (first | exact List.Sublist.refl _ | refine List.Sublist.cons_cons _ ?_ | refine List.Sublist.cons _ ?_)) fun na' nc' => ?_
        simp only [List.set_cons_zero, List.set_cons_succ]
        have hxs : XSet (bs.flatMap blkC) (a * 6 + 1) (.slice na' (c.xs.length + 1) nc') ((bs.set a (putLs c na' nc' (c.xs ++ [swRow r n]))).flatMap blkC) := ⟨flat_set blkC_len hc (k := 1) (by omega) (by rw [hxl]; rfl), by
          rw [flat_len blkC_len, hx2]
          have := Nat.mul_lt_mul_of_pos_right hla.lt (show 0 < 6 by omega)
          omega⟩
        refine h_take 15 rfl (by decide +kernel) (by repeat (first | exact List.Sublist.refl _ | refine List.Sublist.cons_cons _ ?_ | refine List.Sublist.cons _ ?_)) ?_
        refine h_take 16 rfl (by decide +kernel) (by repeat (first | exact List.Sublist.refl _ | refine List.Sublist.cons_cons _ ?_ | refine List.Sublist.cons _ ?_)) ?_
        refine h_storeV 17 (by decide +kernel) (by decide +kernel) (by repeat (first | exact List.Sublist.refl _ | refine List.Sublist.cons_cons _ ?_ | refine List.Sublist.cons _ ?_)) ?_
        refine g_eqH (H1 := _ :: Ent.box p18 [.string y.name, .int .i64 y.params, .int .i64 y.regs, .slice (some ⟨bb, bo, none⟩) y.bs.length y.c] 35 :: Ent.box p17 [.slice m.ga m.gs.length m.gc, .slice (some ⟨vb, vo, none⟩) m.fs.length m.fc] 25 :: Ent.box p7 [.slice ga gn gc, .slice fa fn fc] 25 :: Ent.vec (some ⟨bb, bo, none⟩) y.bs.length y.c 47 6 ((bs.set a (putLs c na' nc' (c.xs ++ [swRow r n]))).flatMap blkC) :: Ent.vec (some ⟨zb, zo, none⟩) c.to.length c.tc 3 1 (c.to.map (.int .i64)) :: Ent.vec na' ((c.xs ++ [swRow r n])).length nc' 71 8 (((c.xs ++ [swRow r n])).flatMap rowC) :: fvE mm :: (gvE mm :: pvE c :: (c.xs.map roE ++ (mm.gs.map gloE ++ ((mm.fs.eraseIdx i).map uE ++ ((bs.eraseIdx a).map blkE ++ c.ps.map phE)))))) (by rw [← hxl, ← hxf]; rfl) ?_
        exact g_mem (na', nc') trivial (by repeat (first | exact trivial | refine ⟨rfl, ?_⟩)) (List.Sublist.cons _ (List.Sublist.refl _))
    obtain ⟨na', nc'⟩ := x
    simp only
    repeat (first | refine g_op rfl ?_ | refine g_then ?_ | refine g_nil ?_ | refine g_region ?_ | refine g_opS rfl ?_ | refine g_inBlock ?_ | refine g_add rfl (by omega) (by omega) ?_)
    rw [show (a : Int) + 1 = ((a + 1 : Nat) : Int) by omega]
    refine g_nilVec 41 2 ?_
    refine g_wd (H' := Ent.box p18 [.string y.name, .int .i64 y.params, .int .i64 y.regs, .slice (some ⟨bb, bo, none⟩) y.bs.length y.c] 35 :: Ent.box p17 [.slice m.ga m.gs.length m.gc, .slice (some ⟨vb, vo, none⟩) m.fs.length m.fc] 25 :: Ent.box p7 [.slice ga gn gc, .slice fa fn fc] 25 :: (m.put i (y.withB (bs.set a (putLs c na' nc' (c.xs ++ [swRow r n]))))).ents) (fun w hw => ?_) ?_
    · have h7 : Wd SS wk ((mm.put i ((y.withB bs).put a (putLs c na' nc' (c.xs ++ [swRow r n])))).ents ++ [Ent.box p18 [.string y.name, .int .i64 y.params, .int .i64 y.regs, .slice (some ⟨bb, bo, none⟩) y.bs.length y.c] 35, Ent.box p17 [.slice m.ga m.gs.length m.gc, .slice (some ⟨vb, vo, none⟩) m.fs.length m.fc] 25, Ent.box p7 [.slice ga gn gc, .slice fa fn fc] 25]) w := by
        refine Wd.uclose hyy hc (hw.perm ?_)
        have h5 : bvE ((y.withB bs).put a (putLs c na' nc' (c.xs ++ [swRow r n]))) = Ent.vec (some ⟨bb, bo, none⟩) y.bs.length y.c 47 6 ((bs.set a (putLs c na' nc' (c.xs ++ [swRow r n]))).flatMap blkC) := by
          unfold bvE URow.put
          simp only [List.length_set, hwb, hx2]
          rw [← hba]
          rfl
        have h6 : lvE (putLs c na' nc' (c.xs ++ [swRow r n])) = Ent.vec na' ((c.xs ++ [swRow r n])).length nc' 71 8 (((c.xs ++ [swRow r n])).flatMap rowC) := rfl
        have h8 : ((c.xs ++ [swRow r n])).map roE = c.xs.map roE ++ [Ent.vec none 0 0 41 2 []] := by rw [List.map_append]; rfl
        unfold restE
        rw [h5, h6, h8, hte]
        classical
        refine List.perm_iff_count.2 fun e => ?_
        simp only [hwb, List.count_append, List.count_cons, List.count_nil]
        omega
      rw [hmm, put_put] at h7
      exact h7.perm (List.perm_append_comm (l₂ := [_, _, _]))
    refine g_next (a + 1, bs.set a (putLs c na' nc' (c.xs ++ [swRow r n]))) ⟨halt, by simp only [List.length_set]; exact hx2, ?_, fun d hd => ?_⟩ (by simp only; omega) (by repeat (first | exact trivial | refine ⟨rfl, ?_⟩)) (List.Sublist.refl _)
    · simp only
      rw [swTo_succ hC, ← hx3, List.map_set]
      congr 1
      have hld : leadsTo b C = true := by
        unfold leadsTo
        rw [hkC, htC, ht]
        simp [hk2, htb]
      unfold swB
      rw [hld, ← hcC]
      simp [BRow.blk, putLs, swRow]
    · rcases List.mem_or_eq_of_mem_set hd with hd | rfl
      · exact hx4 d hd
      · refine ⟨hcb.kind, hcb.on, hcb.phis, hcb.phi, by (have h9 : (putLs c na' nc' (c.xs ++ [swRow r n])).xs.length = c.xs.length + 1 := hxl.symm); omega, fun z hz => ?_, hcb.to⟩
        rcases List.mem_append.1 hz with hz | hz
        · exact hcb.ins z hz
        · rw [List.mem_singleton.1 hz]
          refine ⟨⟨?_, ?_, hnI, ?_, ?_⟩, by simp [swRow, swIns], by simp [swRow, swIns]⟩
          all_goals (simp only [swRow, swIns, noV, inI]; omega)
  have hae : a = X.blocks.length := by have := h3; simp at this; omega
  subst hae
  rw [List.take_length, List.drop_length, List.append_nil] at hx3
  obtain ⟨m', hm'⟩ : ∃ m', m' = m.put i (y.withB bs) := ⟨_, rfl⟩
  have hfew : m.Few := ⟨by have h3 : m.gs.length = u.globals.length := by rw [← hmu]; simp [UMem.unit]
                           have := (check_zero.1 hch).globs
                           omega, by have h3 : m.fs.length = u.funcs.length := by rw [← hmu]; simp [UMem.unit]
                                     have := hl.1
                                     omega, fun z hz => by
    have h3 : z.fn ∈ u.funcs := by rw [← hmu]; exact List.mem_map.2 ⟨z, hz, rfl⟩
    have h4 := (hl.2 _ h3).1
    have h5 : z.fn.blocks.length = z.bs.length := by simp [URow.fn]
    omega⟩
  have hmB : m'.Bd := by
    rw [hm']
    refine ⟨hmb.glob, fun z hz => ?_⟩
    rcases List.mem_or_eq_of_mem_set hz with hz | rfl
    · exact hmb.func z hz
    · exact ⟨(hmb.func y (List.mem_of_getElem? hy)).1, hx4⟩
  have hmF : m'.Few := by
    rw [hm']
    refine ⟨hfew.globs, by unfold UMem.put; simp only [List.length_set]; exact hfew.funcs, fun z hz => ?_⟩
    rcases List.mem_or_eq_of_mem_set hz with hz | rfl
    · exact hfew.each z hz
    · show bs.length ≤ 1000
      omega
  have hmU : m'.unit = swU u i b (swIns r n) := by
    rw [hm', ← hmu]
    unfold UMem.unit UMem.put swU
    simp only
    congr 1
    apply List.ext_getElem?
    intro j
    rw [List.getElem?_modify, List.getElem?_map, List.getElem?_map, List.getElem?_set]
    by_cases e : i = j
    · subst e
      rw [if_pos rfl, if_pos hilm.lt, hy]
      simp only [Option.map_some, if_true, Option.map_eq_map, Option.some.injEq]
      rw [hyX]
      unfold swF
      rw [← hx3, ← hyX]
      rfl
    · rw [if_neg e]
      cases m.fs[j]? with
      | none => rfl
      | some c => simp [e]
  have e1 : m'.ga = m.ga := by rw [hm']; rfl
  have e2 : m'.gs = m.gs := by rw [hm']; rfl
  have e3 : m'.gc = m.gc := by rw [hm']; rfl
  have e4 : m'.fa = some ⟨vb, vo, none⟩ := by rw [← hva, hm']; rfl
  have e5 : m'.fs.length = m.fs.length := by rw [hm']; unfold UMem.put; simp only [List.length_set]
  have e6 : m'.fc = m.fc := by rw [hm']; rfl
  have hms : ∀ (H : List Ent) (w : World), Wd NoS w0 (m'.ents ++ H) w → SlAt w (.slice m.ga m.gs.length m.gc) 3 (swU u i b (swIns r n)).globals GlobalV ∧ SlAt w (.slice (some ⟨vb, vo, none⟩) m.fs.length m.fc) 4 (swU u i b (swIns r n)).funcs FuncV := fun H w hw => by
    have h3 := UMem.sl hmB hmF hw
    rw [hmU, e1, e2, e3, e4, e5, e6] at h3
    exact h3
  rw [← hm']
  refine g_unhold back ?_
  simp only [List.cons_append]
  repeat (first | refine g_op rfl ?_ | refine g_then ?_ | refine g_region ?_ | refine g_seq ?_ | refine g_exit ?_ | refine g_thenExit ?_ | refine g_exitHere ?_)
  have hcz := swap_check (b := b) (r := r) (n := n) (check_zero.1 hch) hX (by omega) (by omega)
  have hfit := unit_fit hl hch (nums_of hf0)
  have hini : ∀ x ∈ inp, inI x := fun x hx => by obtain ⟨_, _, h9⟩ := hin0.el hx; exact h9
  have hdead : ¬ LiveS X.blocks r b (-1) := fun hlv => hin1 (by
    unfold intsL liveN
    exact List.mem_map.2 ⟨r, List.mem_filter.2 ⟨List.mem_range.2 (by omega), by simpa using hlv⟩, rfl⟩)
  have htk : ∀ a, takesR X.blocks b a r = false := fun a => by
    unfold takesR
    rw [phisOf_get hB, List.any_eq_false]
    intro p hp hh
    obtain ⟨s, hs⟩ := List.getElem?_of_mem hp
    simp only [namesR, List.any_cons, List.any_nil, Bool.or_false, Bool.and_eq_true, decide_eq_true_eq] at hh
    cases hsv : p.src[(preds X.blocks b).idxOf a]? with
    | none => rw [hsv] at hh; simp [noV] at hh
    | some v =>
      rw [hsv, Option.getD_some] at hh
      exact hqa s p (by have := (List.getElem?_eq_some_iff.1 hs).1; omega) hs v (List.mem_of_getElem? hsv) hh
  have hmain : mainAt (swU u i b (swIns r n)).funcs = mainAt u.funcs := by
    rw [mainAt_map, mainAt_map]
    congr 2
    unfold swU
    simp only
    apply List.ext_getElem?
    intro j
    rw [List.getElem?_map, List.getElem?_map, List.getElem?_modify]
    cases u.funcs[j]? with
    | none => rfl
    | some Z =>
      by_cases e : i = j
      · simp [e, swF]
      · simp [e]
  refine g_callV rfl (fun w hw => same_c u (swU u i b (swIns r n)) hl (check_light hcz) _ _ _ _ _ inp fuel w (hg0.keep keeps_global hw.chg) (hf0.keep keeps_func hw.chg) (hms _ w (hw.sub (List.Sublist.cons _ (List.Sublist.cons _ (List.Sublist.cons _ (List.Sublist.refl _)))))).1 (hms _ w (hw.sub (List.Sublist.cons _ (List.Sublist.cons _ (List.Sublist.cons _ (List.Sublist.refl _)))))).2 (hin0.keep keeps_int hw.chg) (hways.keep hw.chg) fun f hf2 hc0 hst => ?_) ?_
  · obtain ⟨_, hil2, _⟩ := countsE_zero hc0
    have h3 := swap_result hfit (check_start hch (gnums_of hg0)) (check_zero.1 hch) hX hdead htk hmain hini f (20 * f + 200) hst (by omega)
    refine ⟨?_, h3.state, h3.value, h3.out⟩
    unfold countsE
    rw [if_neg (by simp [check_zero.2 hcz]), if_neg (by omega), if_neg (by simp [within]; omega)]
  repeat (first | refine g_op rfl ?_ | refine g_then ?_ | refine g_nil ?_ | refine g_ret ?_)
  exact g_retV rfl rfl
end Go.Proofs.YtbmnkjaelfjlhaaDoor

