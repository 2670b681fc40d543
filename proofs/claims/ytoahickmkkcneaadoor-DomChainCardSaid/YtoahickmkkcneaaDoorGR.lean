/- Texts joined: OrdL. -/
import Derived.Test.YtoahickmkkcneaaDoorGE
import Derived.Test.YtoahickmkkcneaaDoorGN
import Derived.Test.YtoahickmkkcneaaDoorGO
/- The law GraphOrder, walked: the order against what is reached and the edges that lead back. -/
namespace Go.Proofs.YtoahickmkkcneaaDoor
open Go Go.RowKit
attribute [local irreducible] wpListIn Code.wpIn Exit.then Exit.inBlock bodyPost wpQuiet wpAnyIn wpAnyH bodyPostM
set_option maxHeartbeats 8000000

def orderI (bl : List LBlock) : List Int := (orderL bl).map fun x : Nat => (x : Int)
theorem orderI_len (bl : List LBlock) : (orderI bl).length = (postL bl).length := by simp [orderI, orderL]
theorem orderI_get {bl : List LBlock} {p : Nat} {x : Int} (h : (orderI bl)[p]? = some x) : ∃ c, x = ((c : Nat) : Int) ∧ (orderL bl)[p]? = some c := by
  unfold orderI at h
  rw [List.getElem?_map] at h
  obtain ⟨c, hc, rfl⟩ := Option.map_eq_some_iff.1 h
  exact ⟨c, rfl, hc⟩
/-- how many of the first blocks are reached -/
noncomputable def cntTo (bl : List LBlock) (i : Nat) : Nat := ((List.range i).filter fun x => (open Classical in decide (Rch bl (-1) 0 x))).length
theorem cntTo_succ (bl : List LBlock) (i : Nat) : cntTo bl (i + 1) = cntTo bl i + if (open Classical in decide (Rch bl (-1) 0 i)) then 1 else 0 := by
  classical
  unfold cntTo
  rw [List.range_succ, List.filter_append, List.length_append]
  congr 1
  by_cases h : Rch bl (-1) 0 i <;> simp [h]
theorem cntTo_le (bl : List LBlock) (i : Nat) : cntTo bl i ≤ i := by
  classical
  have := List.length_filter_le (fun x => decide (Rch bl (-1) 0 x)) (List.range i)
  rwa [List.length_range] at this
theorem cntTo_all {bl : List LBlock} (hok : GoodB bl) (h0 : 0 < bl.length) : cntTo bl bl.length = (postL bl).length := by
  classical
  have ho := orderL_ord hok h0
  rw [← orderI_len, orderI, List.length_map]
  unfold cntTo
  refine List.Perm.length_eq ((List.perm_ext_iff_of_nodup (List.nodup_range.filter _) ho.nodup).2 fun x => ?_)
  rw [List.mem_filter, List.mem_range, ho.mem]
  simp only [decide_eq_true_eq]
  exact ⟨fun h => h.2, fun h => ⟨hok.rch h0 h, h⟩⟩
theorem orderK (u : LUnit) (hl : light u) (k : Nat) (hgood : (askedL u k).1 = 0) (X : LFunc) (hX : u.funcs[k]? = some X) (hok : GoodB X.blocks) (hpos : 0 < X.blocks.length) (g fs : Value) (w0 : World) (hg : SlAt w0 g 3 u.globals GlobalV) (hf : SlAt w0 fs 4 u.funcs FuncV) (hways : CellsAt w0 0 0 waysC) :
    RetK Tryd.prog 36 [.agg #[g, fs], .int .i64 k] w0 1 (orderI X.blocks) IntV fun v => .tuple #[v, .agg #[.int .i64 0, .int .i64 0]] :=
  retK_of (order_ok u hl k hgood X hX hok hpos g fs w0 hg hf hways) fun x _ => ⟨x.1, x.2, by rw [orderI_len], fun w2 hw => by
    have h24 := (hl.2 X (List.mem_of_getElem? hX)).1
    have hpl := postL_len hpos
    rw [orderI_len]
    exact hw.slAt (k := 0) rfl (orderI_len _).symm (by omega) fun i x hx => by
      obtain ⟨c, rfl, hc⟩ := orderI_get hx
      refine ⟨[.int .i64 c], fun j v hj => ?_, rfl, by have := postL_lt hok hpos (List.mem_reverse.1 (List.mem_of_getElem? hc)); simp only [inI]; omega⟩
      match j, hj with
      | 0, hj =>
        have hc' : (postL X.blocks).reverse[i]? = some c := hc
        rw [List.getElem?_map, Nat.mul_one, Nat.add_zero, hc']
        simpa [intN] using hj⟩
theorem reachK (u : LUnit) (hl : light u) (k : Nat) (hgood : (askedL u k).1 = 0) (X : LFunc) (hX : u.funcs[k]? = some X) (hok : GoodB X.blocks) (hpos : 0 < X.blocks.length) (g fs : Value) (w0 : World) (hg : SlAt w0 g 3 u.globals GlobalV) (hf : SlAt w0 fs 4 u.funcs FuncV) (hways : CellsAt w0 0 0 waysC) :
    RetK Tryd.prog 37 [.agg #[g, fs], .int .i64 k] w0 1 (seenOf X.blocks 0) BoolV fun v => .tuple #[v, .agg #[.int .i64 0, .int .i64 0]] :=
  retK_of (reach_ok u hl k hgood X hX hok hpos g fs w0 hg hf hways) fun x _ => ⟨some ⟨x, 0, none⟩, X.blocks.length, by rw [seenOf_length], fun w2 hw => by
    have h24 := (hl.2 X (List.mem_of_getElem? hX)).1
    rw [seenOf_length]
    exact hw.slAt (k := 0) rfl (seenOf_length _ _).symm (by omega) fun i x hx => by
      refine ⟨[.bool x], fun j v hj => ?_, rfl⟩
      match j, hj with
      | 0, hj => simpa [hx] using hj⟩
theorem slOf {w : World} {S : Nat → Prop} {α : Type} {s : Nat} {V : World → α → List Value → Prop} {a : Option Addr} {n c : Nat} {l : List α} (h : SlAt w (.slice a n c) s l V) (hold : ∀ {b o : Nat} {v : Value} {l : List Value}, CellsAt w b o (v :: l) → OldIs S b) (hV : ∀ x cs, V w x cs → ∃ v r, cs = v :: r) (h0 : l ≠ []) :
    ∃ b o : Nat, AddrIs a b o ∧ OldIs S b ∧ ∀ i x, l[i]? = some x → ∃ cs, CellsIs w b (o + i * s) cs ∧ V w x cs := by
  obtain ⟨_, _, _, b, o, ha, hel⟩ := h.at
  refine ⟨b, o, ⟨ha h0⟩, ?_, fun i x hi => ?_⟩
  · obtain ⟨x, hx⟩ : ∃ x, l[0]? = some x := ⟨_, List.getElem?_eq_getElem (List.length_pos_iff.2 h0)⟩
    obtain ⟨cs, hc, hv⟩ := hel 0 x hx
    obtain ⟨v, r, rfl⟩ := hV x cs hv
    exact hold hc
  · obtain ⟨cs, hc, hv⟩ := hel i x hi
    exact ⟨cs, ⟨hc⟩, hv⟩
theorem ordLaw_c (u : LUnit) (k : Int) (hk : inI k) (g fs : Value) (w0 : World) (hg : SlAt w0 g 3 u.globals GlobalV) (hf : SlAt w0 fs 4 u.funcs FuncV) (hways : CellsAt w0 0 0 waysC) :
    RetV Tryd.prog 7 [.agg #[g, fs], .int .i64 k] w0 (.bool true) := by
  classical
  have hg0 := hg
  have hf0 := hf
  obtain ⟨ga, gn, gc, gb, go, rfl, _⟩ := hg
  obtain ⟨fa, fn, fc, fb, fo, rfl, hfn, hfnc, hfnb, hfc, hfa, hfel⟩ := hf
  refine ret_enter Tryd.func7 rfl Tryd.ntmps7 rfl (Wd.nil NoS w0) ?_
  repeat (first | refine g_op rfl ?_ | refine g_then ?_ | refine g_nil ?_ | refine g_region ?_ | refine g_seq ?_ | refine g_box rfl fun _ _ => ?_)
  rename_i p2 _
  refine g_callE (val := fun b : Bool => .bool b) (E := fun _ => []) (φ := fun b => b = false → light u) rfl (fun w hw => heavy_c u _ _ w (hf0.keep keeps_func hw.chg) ⟨_, _, _, rfl⟩) fun b hb => ?_
  simp only [List.nil_append]
  cases b
  case true =>
    repeat (first | refine g_then ?_ | refine g_nil ?_ | refine g_region ?_ | refine g_seq ?_ | refine g_opS rfl ?_ | refine g_condT ?_ | refine g_ret ?_ | refine g_thenRet ?_)
    exact g_retV rfl rfl
  have hl := hb rfl
  repeat (first | refine g_op rfl ?_ | refine g_then ?_ | refine g_nil ?_ | refine g_region ?_ | refine g_seq ?_ | refine g_skip ?_ | refine g_condF ?_)
  by_cases hbad : (askedL u k).1 ≠ 0
  · refine g_callV rfl (fun w hw => order_bad u hl k hk hbad _ _ w (hg0.keep keeps_global hw.chg) (hf0.keep keeps_func hw.chg) (hways.keep hw.chg)) ?_
    repeat (first | refine g_op rfl ?_ | refine g_then ?_ | refine g_nil ?_ | refine g_region ?_ | refine g_seq ?_ | refine g_alloc rfl fun _ _ => ?_ | refine g_storeAgg ?_)
    refine g_callV rfl (fun w hw => back_bad u hl k hk hbad _ _ w (hg0.keep keeps_global hw.chg) (hf0.keep keeps_func hw.chg) (hways.keep hw.chg)) ?_
    repeat (first | refine g_op rfl ?_ | refine g_then ?_ | refine g_nil ?_ | refine g_region ?_ | refine g_seq ?_ | refine g_alloc rfl fun _ _ => ?_ | refine g_storeAgg ?_)
    refine g_callV rfl (fun w hw => reach_bad u hl k hk hbad _ _ w (hg0.keep keeps_global hw.chg) (hf0.keep keeps_func hw.chg) (hways.keep hw.chg)) ?_
    repeat (first | refine g_op rfl ?_ | refine g_then ?_ | refine g_nil ?_ | refine g_region ?_ | refine g_seq ?_ | refine g_alloc rfl fun _ _ => ?_ | refine g_storeAgg ?_)
    refine g_cond (fun h1 => ?_) (fun h1 => ?_)
    · repeat (first | refine g_op rfl ?_ | refine g_region ?_ | refine g_seq ?_)
      rw [show (decide ((askedL u k).1 = (askedL u k).1) && decide ((askedL u k).2 = (askedL u k).2)) = true by simp]
      repeat (first | refine g_op rfl ?_ | refine g_open ?_)
      rw [show (decide ((askedL u k).1 = (askedL u k).1) && decide ((askedL u k).2 = (askedL u k).2)) = true by simp]
      repeat (first | refine g_op rfl ?_ | refine g_then ?_ | refine g_nil ?_ | refine g_opS rfl ?_ | refine g_open ?_ | refine g_ret ?_ | refine g_thenRet ?_)
      exact g_retV rfl rfl
    · exact absurd h1 (by simp [hbad])
  have hgood : (askedL u k).1 = 0 := by simpa using hbad
  obtain ⟨hch, has, i, X, rfl, hX, hok⟩ := asked_ok hgood
  have hpos := check_pos hch hX
  have hil : i < fn := by rw [hfn]; exact (List.getElem?_eq_some_iff.1 hX).1
  have had : AddrIs fa fb fo := ⟨hfa (ne_of_get hX)⟩
  have hli : LtIs i fn := ⟨hil⟩
  obtain ⟨cs, hcs, bv, rfl, hpi, hri, hbv⟩ := hfel i X hX
  have hci : CellsIs w0 fb (fo + i * 4) _ := ⟨hcs⟩
  have hbv0 := hbv
  obtain ⟨ba, bn, bc, _, _, rfl, hbn, _⟩ := hbv
  have h24 := (hl.2 X (List.mem_of_getElem? hX)).1
  refine g_callK (s := 1) (l := orderI X.blocks) (V := IntV) (mk := fun v => .tuple #[v, .agg #[.int .i64 0, .int .i64 0]]) rfl (fun w hw => orderK u hl i hgood X hX hok hpos _ _ w (hg0.keep keeps_global hw.chg) (hf0.keep keeps_func hw.chg) (hways.keep hw.chg)) fun ra rc rp => ?_
  repeat (first | refine g_op rfl ?_ | refine g_then ?_ | refine g_nil ?_ | refine g_region ?_ | refine g_seq ?_ | refine g_alloc rfl fun _ _ => ?_ | refine g_storeAgg ?_)
  rename_i p6 _
  refine g_callK (s := 2) (l := backL X.blocks) (V := PairV) (mk := fun v => .tuple #[v, .agg #[.int .i64 0, .int .i64 0]]) rfl (fun w hw => back_ok u hl i hgood X hX hok hpos hch _ _ w (hg0.keep keeps_global hw.chg) (hf0.keep keeps_func hw.chg) (hways.keep hw.chg)) fun ka kc kp => ?_
  repeat (first | refine g_op rfl ?_ | refine g_then ?_ | refine g_nil ?_ | refine g_region ?_ | refine g_seq ?_ | refine g_alloc rfl fun _ _ => ?_ | refine g_storeAgg ?_)
  rename_i p8 _
  refine g_callK (s := 1) (l := seenOf X.blocks 0) (V := BoolV) (mk := fun v => .tuple #[v, .agg #[.int .i64 0, .int .i64 0]]) rfl (fun w hw => reachK u hl i hgood X hX hok hpos _ _ w (hg0.keep keeps_global hw.chg) (hf0.keep keeps_func hw.chg) (hways.keep hw.chg)) fun sa sc sp => ?_
  repeat (first | refine g_op rfl ?_ | refine g_then ?_ | refine g_nil ?_ | refine g_region ?_ | refine g_seq ?_ | refine g_open ?_ | refine g_alloc rfl fun _ _ => ?_ | refine g_storeAgg ?_ | refine g_skip ?_ | refine g_condF ?_)
  rename_i p10 _
  have hol := orderI_len X.blocks
  have hpl := postL_len hpos
  have ho := orderL_ord hok hpos
  have h0 : (orderI X.blocks)[0]? = some 0 := by unfold orderI; rw [List.getElem?_map, ho.zero]; rfl
  have hol0 : 0 < (orderI X.blocks).length := (List.getElem?_eq_some_iff.1 h0).1
  rw [seenOf_length, ← hbn]
  refine g_sel [0, 2, 4, 6, 1, 3, 5] (by decide) ?_
  refine g_eqH (H1 := [Ent.box p10 [.int .i64 0, .int .i64 0] 29, Ent.box p8 [.int .i64 0, .int .i64 0] 29, Ent.box p6 [.int .i64 0, .int .i64 0] 29, Ent.box p2 [.slice ga gn gc, .slice fa fn fc] 25] ++ [(⟨sp, fun w => SlAt w (.slice sa bn sc) 1 (seenOf X.blocks 0) BoolV⟩ : Ent), (⟨kp, fun w => SlAt w (.slice ka (backL X.blocks).length kc) 2 (backL X.blocks) PairV⟩ : Ent), (⟨rp, fun w => SlAt w (.slice ra (orderI X.blocks).length rc) 1 (orderI X.blocks) IntV⟩ : Ent)]) rfl ?_
  refine g_holdK fun w1 hw1 => ?_
  have hrk : SlAt (killW (fps [Ent.box p10 [.int .i64 0, .int .i64 0] 29, Ent.box p8 [.int .i64 0, .int .i64 0] 29, Ent.box p6 [.int .i64 0, .int .i64 0] 29, Ent.box p2 [.slice ga gn gc, .slice fa fn fc] 25]) w1) (.slice ra (orderI X.blocks).length rc) 1 (orderI X.blocks) IntV := hw1.beside (e := (⟨rp, fun w => SlAt w (.slice ra (orderI X.blocks).length rc) 1 (orderI X.blocks) IntV⟩ : Ent)) (by simp)
  have hkk : SlAt (killW (fps [Ent.box p10 [.int .i64 0, .int .i64 0] 29, Ent.box p8 [.int .i64 0, .int .i64 0] 29, Ent.box p6 [.int .i64 0, .int .i64 0] 29, Ent.box p2 [.slice ga gn gc, .slice fa fn fc] 25]) w1) (.slice ka (backL X.blocks).length kc) 2 (backL X.blocks) PairV := hw1.beside (e := (⟨kp, fun w => SlAt w (.slice ka (backL X.blocks).length kc) 2 (backL X.blocks) PairV⟩ : Ent)) (by simp)
  have hsk : SlAt (killW (fps [Ent.box p10 [.int .i64 0, .int .i64 0] 29, Ent.box p8 [.int .i64 0, .int .i64 0] 29, Ent.box p6 [.int .i64 0, .int .i64 0] 29, Ent.box p2 [.slice ga gn gc, .slice fa fn fc] 25]) w1) (.slice sa bn sc) 1 (seenOf X.blocks 0) BoolV := hw1.beside (e := (⟨sp, fun w => SlAt w (.slice sa bn sc) 1 (seenOf X.blocks 0) BoolV⟩ : Ent)) (by simp)
  have back : ∀ {E : List Ent} {w : World}, Wd (fps [Ent.box p10 [.int .i64 0, .int .i64 0] 29, Ent.box p8 [.int .i64 0, .int .i64 0] 29, Ent.box p6 [.int .i64 0, .int .i64 0] 29, Ent.box p2 [.slice ga gn gc, .slice fa fn fc] 25]) (killW (fps [Ent.box p10 [.int .i64 0, .int .i64 0] 29, Ent.box p8 [.int .i64 0, .int .i64 0] 29, Ent.box p6 [.int .i64 0, .int .i64 0] 29, Ent.box p2 [.slice ga gn gc, .slice fa fn fc] 25]) w1) E w → Wd NoS w0 (E ++ [(⟨sp, fun w => SlAt w (.slice sa bn sc) 1 (seenOf X.blocks 0) BoolV⟩ : Ent), (⟨kp, fun w => SlAt w (.slice ka (backL X.blocks).length kc) 2 (backL X.blocks) PairV⟩ : Ent), (⟨rp, fun w => SlAt w (.slice ra (orderI X.blocks).length rc) 1 (orderI X.blocks) IntV⟩ : Ent)]) w := fun hw => hw1.comp hw.unkill
  have hkp : ∀ {E : List Ent} {w : World}, Wd (fps [Ent.box p10 [.int .i64 0, .int .i64 0] 29, Ent.box p8 [.int .i64 0, .int .i64 0] 29, Ent.box p6 [.int .i64 0, .int .i64 0] 29, Ent.box p2 [.slice ga gn gc, .slice fa fn fc] 25]) (killW (fps [Ent.box p10 [.int .i64 0, .int .i64 0] 29, Ent.box p8 [.int .i64 0, .int .i64 0] 29, Ent.box p6 [.int .i64 0, .int .i64 0] 29, Ent.box p2 [.slice ga gn gc, .slice fa fn fc] 25]) w1) E w → ∀ p v, (killW (fps [Ent.box p10 [.int .i64 0, .int .i64 0] 29, Ent.box p8 [.int .i64 0, .int .i64 0] 29, Ent.box p6 [.int .i64 0, .int .i64 0] 29, Ent.box p2 [.slice ga gn gc, .slice fa fn fc] 25]) w1).cell? p = some v → w.cell? p = some v := fun hw => hw.killKeep
  have hold : ∀ {b o : Nat} {v : Value} {l : List Value}, CellsAt (killW (fps [Ent.box p10 [.int .i64 0, .int .i64 0] 29, Ent.box p8 [.int .i64 0, .int .i64 0] 29, Ent.box p6 [.int .i64 0, .int .i64 0] 29, Ent.box p2 [.slice ga gn gc, .slice fa fn fc] 25]) w1) b o (v :: l) → OldIs (fps [Ent.box p10 [.int .i64 0, .int .i64 0] 29, Ent.box p8 [.int .i64 0, .int .i64 0] 29, Ent.box p6 [.int .i64 0, .int .i64 0] 29, Ent.box p2 [.slice ga gn gc, .slice fa fn fc] 25]) b := fun hc => killOldIs hc (by simp)
  have hbw := hbv0.keep keeps_block hw1.killOld
  have hcw := hcs.keep hw1.killOld
  generalize killW (fps [Ent.box p10 [.int .i64 0, .int .i64 0] 29, Ent.box p8 [.int .i64 0, .int .i64 0] 29, Ent.box p6 [.int .i64 0, .int .i64 0] 29, Ent.box p2 [.slice ga gn gc, .slice fa fn fc] 25]) w1 = wk at *
  generalize fps [Ent.box p10 [.int .i64 0, .int .i64 0] 29, Ent.box p8 [.int .i64 0, .int .i64 0] 29, Ent.box p6 [.int .i64 0, .int .i64 0] 29, Ent.box p2 [.slice ga gn gc, .slice fa fn fc] 25] = SS at *
  have hciw : CellsIs wk fb (fo + i * 4) _ := ⟨hcw⟩
  have holf : OldIs SS fb := hold hcw
  obtain ⟨_, _, _, bb, bo, hba, hbel⟩ := hbw.at
  obtain ⟨rb, ro, hadr, holr, hrel⟩ := slOf hrk hold (fun _ _ h => ⟨_, [], h.1⟩) (by intro e; rw [e] at hol0; simp at hol0)
  obtain ⟨sb, so, hads, hols, hsel⟩ := slOf hsk hold (fun _ _ h => ⟨_, [], h⟩) (by intro e; have := seenOf_length X.blocks 0; rw [e] at this; simp at this; omega)
  obtain ⟨cs0, hc0, rfl, _⟩ := hrel 0 0 h0
  have hl0 : LtIs 0 (orderI X.blocks).length := ⟨hol0⟩
  generalize hon : (orderI X.blocks).length = on at *
  rw [show (!decide ((0 : Int) = 0)) = false by simp]
  repeat (first | refine g_op rfl ?_ | refine g_open ?_)
  rw [show decide ((on : Int) = 0) = false by simp; omega]
  repeat (first | refine g_op rfl ?_ | refine g_open ?_)
  rw [show (!decide ((0 : Int) = 0)) = false by simp, show decide ((i : Int) < 0) = false by simp]
  repeat (first | refine g_op rfl ?_ | refine g_then ?_ | refine g_nil ?_ | refine g_open ?_)
  rw [show decide ((fn : Int) ≤ (i : Int)) = false by simp; omega]
  repeat (first | refine g_op rfl ?_ | refine g_then ?_ | refine g_nil ?_ | refine g_region ?_ | refine g_seq ?_ | refine g_block ?_ | refine g_skip ?_ | refine g_condF ?_)
  have hmem : ∀ x : Nat, decide ((x : Int) ∈ orderI X.blocks) = decide (Rch X.blocks (-1) 0 x) := fun x => by
    rw [decide_eq_decide, orderI, mem_ints, ho.mem]
  have hcall := cntTo_all hok hpos
  refine g_loop (fun (j : Nat) => j ≤ bn) (fun j => [(12, .int .i64 j), (11, .int .i64 (cntTo X.blocks j : Nat)), (9, .slice sa bn sc), (7, .slice ka (backL X.blocks).length kc), (5, .slice ra on rc), (2, .pointer (some ⟨p2, 0, none⟩)), (1, .int .i64 i)]) (fun _ => [Ent.box p10 [.int .i64 0, .int .i64 0] 29, Ent.box p8 [.int .i64 0, .int .i64 0] 29, Ent.box p6 [.int .i64 0, .int .i64 0] 29, Ent.box p2 [.slice ga gn gc, .slice fa fn fc] 25]) (fun j => bn - j) 0 (Nat.zero_le _) (g_done (by repeat (first | exact trivial | refine ⟨rfl, ?_⟩)) (List.Sublist.refl _)) fun j hj => ?_
  have hcle := cntTo_le X.blocks j
  repeat (first | refine g_op rfl ?_ | refine g_then ?_ | refine g_nil ?_ | refine g_region ?_ | refine g_seq ?_)
  refine g_cond (fun h1 => ?_) (fun h1 => ?_)
  · have hlt : j < bn := by simpa using h1
    have hlj : LtIs j bn := ⟨hlt⟩
    obtain ⟨csj, hcj, rfl⟩ := hsel j _ (seenOf_get (by omega))
    have hcs := cntTo_succ X.blocks j
    repeat (first | refine g_then ?_ | refine g_seq ?_ | refine g_block ?_ | refine g_skip ?_)
    refine g_draw mixed (by kernel_rfl) ?_
    repeat (refine q_op rfl ?_)
    refine q_call rfl (fun w hw => has_c _ (orderI X.blocks) j w (SlAt.mono (V := IntV) (w := wk) (w' := w) (fun _ _ h => h) (hkp hw) hrk)) ?_
    rw [hmem]
    generalize decide (Rch X.blocks (-1) 0 j) = d at *
    repeat (first | refine q_op rfl ?_ | refine q_nil ?_)
    repeat (refine g_then ?_)
    rw [show (!(d == d)) = false by simp]
    repeat (first | refine g_op rfl ?_ | refine g_then ?_ | refine g_nil ?_ | refine g_region ?_ | refine g_seq ?_ | refine g_skip ?_ | refine g_condF ?_)
    cases d
    · simp only [Bool.false_eq_true, if_false, Nat.add_zero] at hcs
      repeat (first | refine g_op rfl ?_ | refine g_then ?_ | refine g_nil ?_ | refine g_region ?_ | refine g_opS rfl ?_ | refine g_inBlock ?_ | refine g_skip ?_ | refine g_condF ?_ | refine g_add rfl (by omega) (by omega) ?_)
      refine g_fix (L' := [(12, .int .i64 ((j : Int) + 1)), (11, .int .i64 (cntTo X.blocks (j + 1) : Nat)), (9, .slice sa bn sc), (7, .slice ka (backL X.blocks).length kc), (5, .slice ra on rc), (2, .pointer (some ⟨p2, 0, none⟩)), (1, .int .i64 i)]) (by rw [hcs]; exact (by repeat (first | exact trivial | refine ⟨rfl, ?_⟩))) (List.Sublist.refl _) ?_
      exact g_next (j + 1) hlt (by omega) (by repeat (first | exact trivial | refine ⟨rfl, ?_⟩)) (List.Sublist.refl _)
    · simp only [if_true] at hcs
      repeat (first | refine g_op rfl ?_ | refine g_then ?_ | refine g_nil ?_ | refine g_region ?_ | refine g_opS rfl ?_ | refine g_inBlock ?_ | refine g_condT ?_ | refine g_add rfl (by omega) (by omega) ?_)
      refine g_fix (L' := [(12, .int .i64 ((j : Int) + 1)), (11, .int .i64 (cntTo X.blocks (j + 1) : Nat)), (9, .slice sa bn sc), (7, .slice ka (backL X.blocks).length kc), (5, .slice ra on rc), (2, .pointer (some ⟨p2, 0, none⟩)), (1, .int .i64 i)]) (by rw [hcs]; exact (by repeat (first | exact trivial | refine ⟨rfl, ?_⟩))) (List.Sublist.refl _) ?_
      exact g_next (j + 1) hlt (by omega) (by repeat (first | exact trivial | refine ⟨rfl, ?_⟩)) (List.Sublist.refl _)
  · have hge : j = bn := by have := h1; simp at this; omega
    rw [hge, hbn, hcall, ← hol, ← hbn]
    repeat (first | refine g_op rfl ?_ | refine g_then ?_ | refine g_nil ?_ | refine g_region ?_ | refine g_seq ?_ | refine g_exit ?_ | refine g_thenExit ?_ | refine g_exitHere ?_)
    rw [show (!decide ((on : Int) = (on : Int))) = false by simp]
    repeat (first | refine g_op rfl ?_ | refine g_then ?_ | refine g_nil ?_ | refine g_region ?_ | refine g_seq ?_ | refine g_block ?_ | refine g_skip ?_ | refine g_condF ?_)
    clear hcle
    refine g_loop (fun (p : Nat) => p ≤ on) (fun p => [(13, .int .i64 p), (9, .slice sa bn sc), (7, .slice ka (backL X.blocks).length kc), (5, .slice ra on rc), (2, .pointer (some ⟨p2, 0, none⟩)), (1, .int .i64 i)]) (fun _ => [Ent.box p10 [.int .i64 0, .int .i64 0] 29, Ent.box p8 [.int .i64 0, .int .i64 0] 29, Ent.box p6 [.int .i64 0, .int .i64 0] 29, Ent.box p2 [.slice ga gn gc, .slice fa fn fc] 25]) (fun p => on - p) 0 (Nat.zero_le _) (g_done (by repeat (first | exact trivial | refine ⟨rfl, ?_⟩)) (List.Sublist.refl _)) fun p hp => ?_
    repeat (first | refine g_op rfl ?_ | refine g_then ?_ | refine g_nil ?_ | refine g_region ?_ | refine g_seq ?_)
    refine g_cond (fun h2 => ?_) (fun h2 => ?_)
    · have hpo : p < on := by simpa using h2
      have hlp : LtIs p on := ⟨hpo⟩
      obtain ⟨z, hz⟩ : ∃ z, (orderI X.blocks)[p]? = some z := ⟨_, List.getElem?_eq_getElem (by omega)⟩
      obtain ⟨x, rfl, hx⟩ := orderI_get hz
      obtain ⟨csx, hcx, rfl, _⟩ := hrel p _ hz
      have hxr : Rch X.blocks (-1) 0 x := (ho.mem x).1 (List.mem_of_getElem? hx)
      have hxn : x < bn := by have := hok.rch hpos hxr; omega
      have hlx : LtIs x bn := ⟨hxn⟩
      obtain ⟨B, hB⟩ : ∃ B, X.blocks[x]? = some B := ⟨_, List.getElem?_eq_getElem (by omega)⟩
      have hadb : AddrIs ba bb bo := ⟨hba (ne_of_get hB)⟩
      obtain ⟨csB, hcsB, pv, lv, tv, rfl, _, _, _, _, htv⟩ := hbel x B hB
      have htv0 := htv
      obtain ⟨ta, tn, tc, tb, to, rfl, htn, htnc, htnb, htcb, hta, htel⟩ := htv0
      have hciB : CellsIs wk bb (bo + x * 6) _ := ⟨hcsB⟩
      have holB : OldIs SS bb := hold hcsB
      have htoOf := toOf_get hB
      repeat (first | refine g_then ?_ | refine g_seq ?_ | refine g_block ?_ | refine g_skip ?_)
      refine g_draw mixed (by kernel_rfl) ?_
      repeat (first | refine q_op rfl ?_ | refine q_open ?_)
      rw [show decide ((x : Int) < 0) = false by simp]
      repeat (first | refine q_op rfl ?_ | refine q_nil ?_)
      rw [show decide ((bn : Int) ≤ (x : Int)) = false by simp; omega]
      skip
      repeat (first | refine g_then ?_ | refine g_seq ?_ | refine g_skip ?_ | refine g_condF ?_)
      refine g_draw mixed (by kernel_rfl) ?_
      repeat (first | refine q_op rfl ?_ | refine q_nil ?_)
      repeat (first | refine g_op rfl ?_ | refine g_then ?_ | refine g_nil ?_ | refine g_region ?_ | refine g_seq ?_ | refine g_block ?_)
      refine g_loop (fun (q : Nat) => q ≤ tn) (fun q => [(15, .int .i64 q), (14, .slice ta tn tc), (13, .int .i64 p), (9, .slice sa bn sc), (7, .slice ka (backL X.blocks).length kc), (5, .slice ra on rc), (2, .pointer (some ⟨p2, 0, none⟩)), (1, .int .i64 i)]) (fun _ => [Ent.box p10 [.int .i64 0, .int .i64 0] 29, Ent.box p8 [.int .i64 0, .int .i64 0] 29, Ent.box p6 [.int .i64 0, .int .i64 0] 29, Ent.box p2 [.slice ga gn gc, .slice fa fn fc] 25]) (fun q => tn - q) 0 (Nat.zero_le _) (g_done (by repeat (first | exact trivial | refine ⟨rfl, ?_⟩)) (List.Sublist.refl _)) fun q hq => ?_
      repeat (first | refine g_op rfl ?_ | refine g_then ?_ | refine g_nil ?_ | refine g_region ?_ | refine g_seq ?_)
      refine g_cond (fun h3 => ?_) (fun h3 => ?_)
      · have hqt : q < tn := by simpa using h3
        have hlq : LtIs q tn := ⟨hqt⟩
        obtain ⟨y, hy⟩ : ∃ y, B.to[q]? = some y := ⟨_, List.getElem?_eq_getElem (by omega)⟩
        have hadt : AddrIs ta tb to := ⟨hta (ne_of_get hy)⟩
        obtain ⟨csy, hcy, rfl, _⟩ := htel q y hy
        have hciy : CellsIs wk tb (to + q * 1) _ := ⟨hcy⟩
        have holy : OldIs SS tb := hold hcy
        have hty : ∃ t : Nat, y = (t : Int) ∧ t < bn := by
          have h6 := (hok B (List.mem_of_getElem? hB)).2 y (List.mem_of_getElem? hy)
          exact ⟨y.toNat, by omega, by omega⟩
        obtain ⟨t, rfl, htn2⟩ := hty
        have hte : Edge X.blocks x t := by unfold Edge; rw [htoOf]; exact List.mem_of_getElem? hy
        have htr : t ∈ orderL X.blocks := (ho.mem t).2 (hxr.step hte (by omega))
        have hxm : x ∈ orderL X.blocks := List.mem_of_getElem? hx
        have hbk := placeL_back hok hpos hte
        have hpx : placeL X.blocks x = p := by
          unfold placeL rk
          rw [if_pos hxm]
          have h7 := List.Nodup.idxOf_getElem ho.nodup p (List.getElem?_eq_some_iff.1 hx).1
          rw [(List.getElem?_eq_some_iff.1 hx).2] at h7
          rw [h7]
        have hpt : placeI (orderI X.blocks) t = placeL X.blocks t := by
          unfold orderI
          rw [placeI_nat]; rfl
        have hle := hbk
        rw [hpx] at hbk
        repeat (first | refine g_op rfl ?_ | refine g_then ?_ | refine g_nil ?_ | refine g_region ?_ | refine g_seq ?_ | refine g_block ?_ | refine g_skip ?_)
        have hbl9 := backL_len (bl := X.blocks) (by omega)
        refine g_loop (fun (e : Nat) => e ≤ (backL X.blocks).length) (fun e => [(17, .int .i64 e), (16, .bool (decide ((x, t) ∈ (backL X.blocks).take e))), (15, .int .i64 q), (14, .slice ta tn tc), (13, .int .i64 p), (9, .slice sa bn sc), (7, .slice ka (backL X.blocks).length kc), (5, .slice ra on rc), (2, .pointer (some ⟨p2, 0, none⟩)), (1, .int .i64 i)]) (fun _ => [Ent.box p10 [.int .i64 0, .int .i64 0] 29, Ent.box p8 [.int .i64 0, .int .i64 0] 29, Ent.box p6 [.int .i64 0, .int .i64 0] 29, Ent.box p2 [.slice ga gn gc, .slice fa fn fc] 25]) (fun e => (backL X.blocks).length - e) 0 (Nat.zero_le _) (g_done (by repeat (first | exact trivial | refine ⟨rfl, ?_⟩)) (List.Sublist.refl _)) fun e he => ?_
        repeat (first | refine g_op rfl ?_ | refine g_then ?_ | refine g_nil ?_ | refine g_region ?_ | refine g_seq ?_)
        refine g_cond (fun h4 => ?_) (fun h4 => ?_)
        · have hel : e < (backL X.blocks).length := by simpa using h4
          have hle2 : LtIs e (backL X.blocks).length := ⟨hel⟩
          obtain ⟨⟨c, d⟩, hcd⟩ : ∃ p, (backL X.blocks)[e]? = some p := ⟨_, List.getElem?_eq_getElem hel⟩
          obtain ⟨kb, ko, hadk, holk, hkel⟩ := slOf hkk hold (fun _ _ h => ⟨_, _, h⟩) (ne_of_get hcd)
          obtain ⟨csk, hck, e2⟩ := hkel e _ hcd
          subst e2
          have hck2 : CellsIs wk kb (ko + e * 2) [.int .i64 (c : Int), .int .i64 (d : Int)] := hck
          have htk : decide ((x, t) ∈ (backL X.blocks).take (e + 1)) = (decide ((x, t) ∈ (backL X.blocks).take e) || decide ((c, d) = (x, t))) := by
            rw [List.take_add_one, hcd, decide_eq_decide.2 List.mem_append, Bool.decide_or]
            congr 1
            rw [decide_eq_decide]
            simp [eq_comm]
          repeat (first | refine g_then ?_ | refine g_seq ?_ | refine g_block ?_ | refine g_skip ?_)
          refine g_draw mixed (by kernel_rfl) ?_
          repeat (first | refine q_op rfl ?_ | refine q_nil ?_)
          repeat (refine g_then ?_)
          have hxy : (decide ((c : Int) = (x : Int)) && decide ((d : Int) = (t : Int))) = decide ((c, d) = (x, t)) := by
            simp only [Prod.mk.injEq, Int.natCast_inj]
            by_cases h1 : c = x <;> by_cases h2 : d = t <;> simp [h1, h2]
          rw [hxy]
          generalize decide ((c, d) = (x, t)) = v at htk ⊢
          cases v
          · repeat (first | refine g_op rfl ?_ | refine g_then ?_ | refine g_nil ?_ | refine g_region ?_ | refine g_opS rfl ?_ | refine g_inBlock ?_ | refine g_skip ?_ | refine g_condF ?_ | refine g_add rfl (by omega) (by omega) ?_)
            refine g_fix (L' := [(17, .int .i64 ((e : Int) + 1)), (16, .bool (decide ((x, t) ∈ (backL X.blocks).take (e + 1)))), (15, .int .i64 q), (14, .slice ta tn tc), (13, .int .i64 p), (9, .slice sa bn sc), (7, .slice ka (backL X.blocks).length kc), (5, .slice ra on rc), (2, .pointer (some ⟨p2, 0, none⟩)), (1, .int .i64 i)]) (by rw [htk, Bool.or_false]; exact (by repeat (first | exact trivial | refine ⟨rfl, ?_⟩))) (List.Sublist.refl _) ?_
            exact g_next (e + 1) hel (by omega) (by repeat (first | exact trivial | refine ⟨rfl, ?_⟩)) (List.Sublist.refl _)
          · repeat (first | refine g_op rfl ?_ | refine g_then ?_ | refine g_nil ?_ | refine g_region ?_ | refine g_opS rfl ?_ | refine g_inBlock ?_ | refine g_condT ?_ | refine g_add rfl (by omega) (by omega) ?_)
            refine g_fix (L' := [(17, .int .i64 ((e : Int) + 1)), (16, .bool (decide ((x, t) ∈ (backL X.blocks).take (e + 1)))), (15, .int .i64 q), (14, .slice ta tn tc), (13, .int .i64 p), (9, .slice sa bn sc), (7, .slice ka (backL X.blocks).length kc), (5, .slice ra on rc), (2, .pointer (some ⟨p2, 0, none⟩)), (1, .int .i64 i)]) (by rw [htk, Bool.or_true]; exact (by repeat (first | exact trivial | refine ⟨rfl, ?_⟩))) (List.Sublist.refl _) ?_
            exact g_next (e + 1) hel (by omega) (by repeat (first | exact trivial | refine ⟨rfl, ?_⟩)) (List.Sublist.refl _)
        · have hge : e = (backL X.blocks).length := by have := h4; simp at this; omega
          rw [hge, List.take_length, show decide ((x, t) ∈ backL X.blocks) = decide (BackE X.blocks x t) from decide_eq_decide.2 (backL_mem hok hpos)]
          repeat (first | refine g_op rfl ?_ | refine g_then ?_ | refine g_region ?_ | refine g_seq ?_ | refine g_exit ?_ | refine g_thenExit ?_ | refine g_exitHere ?_)
          refine g_callV rfl (fun w hw => placeI_c _ (orderI X.blocks) t w (SlAt.mono (V := IntV) (w := wk) (w' := w) (fun _ _ h => h) (hkp hw) hrk)) ?_
          rw [hpt]
          repeat (first | refine g_op rfl ?_ | refine g_then ?_ | refine g_nil ?_)
          rw [show decide (placeL X.blocks t ≤ (p : Int)) = decide (BackE X.blocks x t) by
            rw [decide_eq_decide]
            exact ⟨fun h => hbk.1 ⟨by omega, h⟩, fun h => (hbk.2 h).2⟩]
          generalize decide (BackE X.blocks x t) = d
          rw [show (!(d == d)) = false by simp]
          repeat (first | refine g_op rfl ?_ | refine g_then ?_ | refine g_nil ?_ | refine g_region ?_ | refine g_opS rfl ?_ | refine g_inBlock ?_ | refine g_skip ?_ | refine g_condF ?_ | refine g_add rfl (by omega) (by omega) ?_)
          exact g_next (q + 1) hqt (by omega) (by repeat (first | exact trivial | refine ⟨rfl, ?_⟩)) (List.Sublist.refl _)
      · have hge : q = tn := by have := h3; simp at this; omega
        repeat (first | refine g_op rfl ?_ | refine g_then ?_ | refine g_nil ?_ | refine g_region ?_ | refine g_opS rfl ?_ | refine g_inBlock ?_ | refine g_add rfl (by omega) (by omega) ?_ | refine g_exit ?_ | refine g_thenExit ?_ | refine g_exitHere ?_)
        exact g_next (p + 1) hpo (by omega) (by repeat (first | exact trivial | refine ⟨rfl, ?_⟩)) (List.Sublist.refl _)
    · have hge : p = on := by have := h2; simp at this; omega
      repeat (first | refine g_op rfl ?_ | refine g_then ?_ | refine g_nil ?_ | refine g_region ?_ | refine g_seq ?_ | refine g_exit ?_ | refine g_thenExit ?_ | refine g_exitHere ?_ | refine g_ret ?_)
      exact g_ret1 rfl fun w hw => ⟨rfl, (back hw).chg⟩
end Go.Proofs.YtoahickmkkcneaaDoor
