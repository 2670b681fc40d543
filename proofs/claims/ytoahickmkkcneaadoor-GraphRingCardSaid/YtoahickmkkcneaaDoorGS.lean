/- Texts joined: RingL. -/
import Derived.Test.YtoahickmkkcneaaDoorGD
import Derived.Test.YtoahickmkkcneaaDoorGR
/- The law GraphRing, walked: a ring that is reached, just where an edge leads back. -/
namespace Go.Proofs.YtoahickmkkcneaaDoor
open Go Go.RowKit
attribute [local irreducible] wpListIn Code.wpIn Exit.then Exit.inBlock bodyPost wpQuiet wpAnyIn wpAnyH bodyPostM
set_option maxHeartbeats 8000000

noncomputable def partsI (bl : List LBlock) : List Int := (List.range bl.length).map fun b => (partOf bl b : Int)
theorem partsI_len (bl : List LBlock) : (partsI bl).length = bl.length := by simp [partsI]
theorem partsI_get {bl : List LBlock} {b : Nat} (h : b < bl.length) : (partsI bl)[b]? = some (partOf bl b : Int) := by unfold partsI; rw [List.getElem?_map, List.getElem?_range h]; rfl
/-- that two blocks show a ring -/
def Hit (bl : List LBlock) (i j : Nat) : Prop := Rch bl (-1) 0 i ∧ partOf bl i = partOf bl j ∧ (i ≠ j ∨ Edge bl i i)
def RingAt (bl : List LBlock) (b c : Nat) : Prop := (∃ i, i < b ∧ ∃ j, j < bl.length ∧ Hit bl i j) ∨ ∃ j, j < c ∧ Hit bl b j
theorem ringAt_succ {bl : List LBlock} {b c : Nat} : RingAt bl b (c + 1) ↔ (RingAt bl b c ∨ Hit bl b c) := by
  constructor
  · rintro (h | ⟨j, hj, h⟩)
    · exact .inl (.inl h)
    · by_cases e : j = c
      · subst e; exact .inr h
      · exact .inl (.inr ⟨j, by omega, h⟩)
  · rintro ((h | ⟨j, hj, h⟩) | h)
    · exact .inl h
    · exact .inr ⟨j, by omega, h⟩
    · exact .inr ⟨c, by omega, h⟩
theorem ringAt_row {bl : List LBlock} {b : Nat} : RingAt bl b bl.length ↔ RingAt bl (b + 1) 0 := by
  constructor
  · rintro (⟨i, hi, h⟩ | ⟨j, hj, h⟩)
    · exact .inl ⟨i, by omega, h⟩
    · exact .inl ⟨b, by omega, j, hj, h⟩
  · rintro (⟨i, hi, j, hj, h⟩ | ⟨j, hj, h⟩)
    · by_cases e : i = b
      · subst e; exact .inr ⟨j, hj, h⟩
      · exact .inl ⟨i, by omega, j, hj, h⟩
    · omega
theorem ringAt_all {bl : List LBlock} (hok : GoodB bl) (h0 : 0 < bl.length) : RingAt bl bl.length 0 ↔ 0 < (backL bl).length := by
  have h1 : RingAt bl bl.length 0 ↔ ∃ i, Round bl i := by
    constructor
    · rintro (⟨i, hi, j, hj, h1, h2, h3⟩ | ⟨j, hj, _⟩)
      · refine ⟨i, h1, ?_⟩
        rcases h3 with h3 | h3
        · exact .inr ⟨j, hj, fun e => h3 e.symm, (part_iff hi hj).1 h2⟩
        · exact .inl h3
      · omega
    · rintro ⟨i, hr, h⟩
      have hi : i < bl.length := hok.rch h0 hr
      refine .inl ⟨i, hi, ?_⟩
      rcases h with h | ⟨j, hj, hne, hm⟩
      · exact ⟨i, hi, hr, rfl, .inr h⟩
      · exact ⟨j, hj, hr, (part_iff hi hj).2 hm, .inl fun e => hne e.symm⟩
  rw [h1, ring_back hok h0]
  constructor
  · rintro ⟨u, t, h⟩; exact List.length_pos_iff.2 (List.ne_nil_of_mem ((backL_mem hok h0).2 h))
  · intro h
    obtain ⟨⟨u, t⟩, hp⟩ := List.exists_mem_of_ne_nil _ (List.length_pos_iff.1 h)
    exact ⟨u, t, (backL_mem hok h0).1 hp⟩
theorem partsK (u : LUnit) (hl : light u) (k : Nat) (hgood : (askedL u k).1 = 0) (X : LFunc) (hX : u.funcs[k]? = some X) (hok : GoodB X.blocks) (g fs : Value) (w0 : World) (hg : SlAt w0 g 3 u.globals GlobalV) (hf : SlAt w0 fs 4 u.funcs FuncV) (hways : CellsAt w0 0 0 waysC) :
    RetK Tryd.prog 42 [.agg #[g, fs], .int .i64 k] w0 1 (partsI X.blocks) IntV fun v => .tuple #[v, .agg #[.int .i64 0, .int .i64 0]] :=
  retK_of (parts_ok u hl k hgood X hX hok g fs w0 hg hf hways) fun x _ => ⟨x.1, x.2, by rw [partsI_len], fun w2 hw => by
    have h24 := (hl.2 X (List.mem_of_getElem? hX)).1
    rw [partsI_len]
    exact hw.slAt (k := 0) rfl (partsI_len _).symm (by omega) fun i x hx => by
      have hi : i < X.blocks.length := by have := (List.getElem?_eq_some_iff.1 hx).1; rwa [partsI_len] at this
      rw [partsI_get hi] at hx
      obtain rfl := Option.some.inj hx
      have hple := (part_spec hi).1
      refine ⟨[.int .i64 (partOf X.blocks i : Int)], fun j v hj => ?_, rfl, by simp only [inI]; omega⟩
      match j, hj with
      | 0, hj =>
        rw [List.getElem?_map, Nat.mul_one, Nat.add_zero, List.getElem?_range hi]
        simpa [intN] using hj⟩
theorem ringLaw_c (u : LUnit) (k : Int) (hk : inI k) (g fs : Value) (w0 : World) (hg : SlAt w0 g 3 u.globals GlobalV) (hf : SlAt w0 fs 4 u.funcs FuncV) (hways : CellsAt w0 0 0 waysC) :
    RetV Tryd.prog 9 [.agg #[g, fs], .int .i64 k] w0 (.bool true) := by
  classical
  have hg0 := hg
  have hf0 := hf
  obtain ⟨ga, gn, gc, gb, go, rfl, _⟩ := hg
  obtain ⟨fa, fn, fc, fb, fo, rfl, hfn, hfnc, hfnb, hfc, hfa, hfel⟩ := hf
  refine ret_enter Tryd.func9 rfl Tryd.ntmps9 rfl (Wd.nil NoS w0) ?_
  repeat (first | refine g_op rfl ?_ | refine g_then ?_ | refine g_nil ?_ | refine g_region ?_ | refine g_seq ?_ | refine g_box rfl fun _ _ => ?_)
  rename_i p2 _
  refine g_callE (val := fun b : Bool => .bool b) (E := fun _ => []) (φ := fun b => b = false → light u) rfl (fun w hw => heavy_c u _ _ w (hf0.keep keeps_func hw.chg) ⟨_, _, _, rfl⟩) fun b hb => ?_
  simp only [List.nil_append]
  cases b
  case true =>
    repeat (first | refine g_then ?_ | refine g_nil ?_ | refine g_region ?_ | refine g_seq ?_ | refine g_opS rfl ?_ | refine g_condT ?_ | refine g_ret ?_ | refine g_thenRet ?_)
    exact g_retV rfl rfl
  have hl := hb rfl
  repeat (first | refine g_op rfl ?_ | refine g_then ?_ | refine g_nil ?_ | refine g_region ?_ | refine g_seq ?_ | refine g_skip ?_ | refine g_condF ?_)
  by_cases hbad : (askedL u k).1 ≠ 0
  · refine g_callV rfl (fun w hw => parts_bad u hl k hk hbad _ _ w (hg0.keep keeps_global hw.chg) (hf0.keep keeps_func hw.chg) (hways.keep hw.chg)) ?_
    repeat (first | refine g_op rfl ?_ | refine g_then ?_ | refine g_nil ?_ | refine g_region ?_ | refine g_seq ?_ | refine g_alloc rfl fun _ _ => ?_ | refine g_storeAgg ?_)
    refine g_callV rfl (fun w hw => back_bad u hl k hk hbad _ _ w (hg0.keep keeps_global hw.chg) (hf0.keep keeps_func hw.chg) (hways.keep hw.chg)) ?_
    repeat (first | refine g_op rfl ?_ | refine g_then ?_ | refine g_nil ?_ | refine g_region ?_ | refine g_seq ?_ | refine g_alloc rfl fun _ _ => ?_ | refine g_storeAgg ?_)
    refine g_callV rfl (fun w hw => reach_bad u hl k hk hbad _ _ w (hg0.keep keeps_global hw.chg) (hf0.keep keeps_func hw.chg) (hways.keep hw.chg)) ?_
    repeat (first | refine g_op rfl ?_ | refine g_then ?_ | refine g_nil ?_ | refine g_region ?_ | refine g_seq ?_ | refine g_alloc rfl fun _ _ => ?_ | refine g_storeAgg ?_)
    refine g_cond (fun h1 => ?_) (fun h1 => ?_)
    · repeat (first | refine g_op rfl ?_ | refine g_region ?_ | refine g_seq ?_)
      rw [show (decide ((askedL u k).1 = (askedL u k).1) && decide ((askedL u k).2 = (askedL u k).2)) = true by simp]
      repeat (first | refine g_op rfl ?_ | refine g_open ?_)
      rw [show (decide ((askedL u k).1 = (askedL u k).1) && decide ((askedL u k).2 = (askedL u k).2)) = true by simp]
      repeat (first | refine g_op rfl ?_ | refine g_then ?_ | refine g_nil ?_ | refine g_opS rfl ?_ | refine g_open ?_ | refine g_ret ?_ | refine g_thenRet ?_)
      exact g_retV rfl rfl
    · exact absurd h1 (by simp [hbad])
  have hgood : (askedL u k).1 = 0 := by simpa using hbad
  obtain ⟨hch, has, i, X, rfl, hX, hok⟩ := asked_ok hgood
  have hpos := check_pos hch hX
  have hil : i < fn := by rw [hfn]; exact (List.getElem?_eq_some_iff.1 hX).1
  have had : AddrIs fa fb fo := ⟨hfa (ne_of_get hX)⟩
  have hli : LtIs i fn := ⟨hil⟩
  obtain ⟨cs, hcs, bv, rfl, hpi, hri, hbv⟩ := hfel i X hX
  have hci : CellsIs w0 fb (fo + i * 4) _ := ⟨hcs⟩
  have hbv0 := hbv
  obtain ⟨ba, bn, bc, _, _, rfl, hbn, _⟩ := hbv
  have h24 := (hl.2 X (List.mem_of_getElem? hX)).1
  refine g_callK (s := 1) (l := partsI X.blocks) (V := IntV) (mk := fun v => .tuple #[v, .agg #[.int .i64 0, .int .i64 0]]) rfl (fun w hw => partsK u hl i hgood X hX hok _ _ w (hg0.keep keeps_global hw.chg) (hf0.keep keeps_func hw.chg) (hways.keep hw.chg)) fun ra rc rp => ?_
  repeat (first | refine g_op rfl ?_ | refine g_then ?_ | refine g_nil ?_ | refine g_region ?_ | refine g_seq ?_ | refine g_alloc rfl fun _ _ => ?_ | refine g_storeAgg ?_)
  rename_i p6 _
  refine g_callK (s := 2) (l := backL X.blocks) (V := PairV) (mk := fun v => .tuple #[v, .agg #[.int .i64 0, .int .i64 0]]) rfl (fun w hw => back_ok u hl i hgood X hX hok hpos hch _ _ w (hg0.keep keeps_global hw.chg) (hf0.keep keeps_func hw.chg) (hways.keep hw.chg)) fun ka kc kp => ?_
  repeat (first | refine g_op rfl ?_ | refine g_then ?_ | refine g_nil ?_ | refine g_region ?_ | refine g_seq ?_ | refine g_alloc rfl fun _ _ => ?_ | refine g_storeAgg ?_)
  rename_i p8 _
  refine g_callK (s := 1) (l := seenOf X.blocks 0) (V := BoolV) (mk := fun v => .tuple #[v, .agg #[.int .i64 0, .int .i64 0]]) rfl (fun w hw => reachK u hl i hgood X hX hok hpos _ _ w (hg0.keep keeps_global hw.chg) (hf0.keep keeps_func hw.chg) (hways.keep hw.chg)) fun sa sc sp => ?_
  repeat (first | refine g_op rfl ?_ | refine g_then ?_ | refine g_nil ?_ | refine g_region ?_ | refine g_seq ?_ | refine g_open ?_ | refine g_alloc rfl fun _ _ => ?_ | refine g_storeAgg ?_ | refine g_skip ?_ | refine g_condF ?_)
  rename_i p10 _
  rw [seenOf_length, partsI_len, ← hbn]
  refine g_sel [0, 2, 4, 6, 1, 3, 5] (by decide) ?_
  refine g_eqH (H1 := [Ent.box p10 [.int .i64 0, .int .i64 0] 29, Ent.box p8 [.int .i64 0, .int .i64 0] 29, Ent.box p6 [.int .i64 0, .int .i64 0] 29, Ent.box p2 [.slice ga gn gc, .slice fa fn fc] 25] ++ [(⟨sp, fun w => SlAt w (.slice sa bn sc) 1 (seenOf X.blocks 0) BoolV⟩ : Ent), (⟨kp, fun w => SlAt w (.slice ka (backL X.blocks).length kc) 2 (backL X.blocks) PairV⟩ : Ent), (⟨rp, fun w => SlAt w (.slice ra bn rc) 1 (partsI X.blocks) IntV⟩ : Ent)]) rfl ?_
  refine g_holdK fun w1 hw1 => ?_
  have hrk : SlAt (killW (fps [Ent.box p10 [.int .i64 0, .int .i64 0] 29, Ent.box p8 [.int .i64 0, .int .i64 0] 29, Ent.box p6 [.int .i64 0, .int .i64 0] 29, Ent.box p2 [.slice ga gn gc, .slice fa fn fc] 25]) w1) (.slice ra bn rc) 1 (partsI X.blocks) IntV := hw1.beside (e := (⟨rp, fun w => SlAt w (.slice ra bn rc) 1 (partsI X.blocks) IntV⟩ : Ent)) (by simp)
  have hkk : SlAt (killW (fps [Ent.box p10 [.int .i64 0, .int .i64 0] 29, Ent.box p8 [.int .i64 0, .int .i64 0] 29, Ent.box p6 [.int .i64 0, .int .i64 0] 29, Ent.box p2 [.slice ga gn gc, .slice fa fn fc] 25]) w1) (.slice ka (backL X.blocks).length kc) 2 (backL X.blocks) PairV := hw1.beside (e := (⟨kp, fun w => SlAt w (.slice ka (backL X.blocks).length kc) 2 (backL X.blocks) PairV⟩ : Ent)) (by simp)
  have hsk : SlAt (killW (fps [Ent.box p10 [.int .i64 0, .int .i64 0] 29, Ent.box p8 [.int .i64 0, .int .i64 0] 29, Ent.box p6 [.int .i64 0, .int .i64 0] 29, Ent.box p2 [.slice ga gn gc, .slice fa fn fc] 25]) w1) (.slice sa bn sc) 1 (seenOf X.blocks 0) BoolV := hw1.beside (e := (⟨sp, fun w => SlAt w (.slice sa bn sc) 1 (seenOf X.blocks 0) BoolV⟩ : Ent)) (by simp)
  have back : ∀ {E : List Ent} {w : World}, Wd (fps [Ent.box p10 [.int .i64 0, .int .i64 0] 29, Ent.box p8 [.int .i64 0, .int .i64 0] 29, Ent.box p6 [.int .i64 0, .int .i64 0] 29, Ent.box p2 [.slice ga gn gc, .slice fa fn fc] 25]) (killW (fps [Ent.box p10 [.int .i64 0, .int .i64 0] 29, Ent.box p8 [.int .i64 0, .int .i64 0] 29, Ent.box p6 [.int .i64 0, .int .i64 0] 29, Ent.box p2 [.slice ga gn gc, .slice fa fn fc] 25]) w1) E w → Wd NoS w0 (E ++ [(⟨sp, fun w => SlAt w (.slice sa bn sc) 1 (seenOf X.blocks 0) BoolV⟩ : Ent), (⟨kp, fun w => SlAt w (.slice ka (backL X.blocks).length kc) 2 (backL X.blocks) PairV⟩ : Ent), (⟨rp, fun w => SlAt w (.slice ra bn rc) 1 (partsI X.blocks) IntV⟩ : Ent)]) w := fun hw => hw1.comp hw.unkill
  have hkp : ∀ {E : List Ent} {w : World}, Wd (fps [Ent.box p10 [.int .i64 0, .int .i64 0] 29, Ent.box p8 [.int .i64 0, .int .i64 0] 29, Ent.box p6 [.int .i64 0, .int .i64 0] 29, Ent.box p2 [.slice ga gn gc, .slice fa fn fc] 25]) (killW (fps [Ent.box p10 [.int .i64 0, .int .i64 0] 29, Ent.box p8 [.int .i64 0, .int .i64 0] 29, Ent.box p6 [.int .i64 0, .int .i64 0] 29, Ent.box p2 [.slice ga gn gc, .slice fa fn fc] 25]) w1) E w → ∀ p v, (killW (fps [Ent.box p10 [.int .i64 0, .int .i64 0] 29, Ent.box p8 [.int .i64 0, .int .i64 0] 29, Ent.box p6 [.int .i64 0, .int .i64 0] 29, Ent.box p2 [.slice ga gn gc, .slice fa fn fc] 25]) w1).cell? p = some v → w.cell? p = some v := fun hw => hw.killKeep
  have hold : ∀ {b o : Nat} {v : Value} {l : List Value}, CellsAt (killW (fps [Ent.box p10 [.int .i64 0, .int .i64 0] 29, Ent.box p8 [.int .i64 0, .int .i64 0] 29, Ent.box p6 [.int .i64 0, .int .i64 0] 29, Ent.box p2 [.slice ga gn gc, .slice fa fn fc] 25]) w1) b o (v :: l) → OldIs (fps [Ent.box p10 [.int .i64 0, .int .i64 0] 29, Ent.box p8 [.int .i64 0, .int .i64 0] 29, Ent.box p6 [.int .i64 0, .int .i64 0] 29, Ent.box p2 [.slice ga gn gc, .slice fa fn fc] 25]) b := fun hc => killOldIs hc (by simp)
  have hbw := hbv0.keep keeps_block hw1.killOld
  have hcw := hcs.keep hw1.killOld
  generalize killW (fps [Ent.box p10 [.int .i64 0, .int .i64 0] 29, Ent.box p8 [.int .i64 0, .int .i64 0] 29, Ent.box p6 [.int .i64 0, .int .i64 0] 29, Ent.box p2 [.slice ga gn gc, .slice fa fn fc] 25]) w1 = wk at *
  generalize fps [Ent.box p10 [.int .i64 0, .int .i64 0] 29, Ent.box p8 [.int .i64 0, .int .i64 0] 29, Ent.box p6 [.int .i64 0, .int .i64 0] 29, Ent.box p2 [.slice ga gn gc, .slice fa fn fc] 25] = SS at *
  have hciw : CellsIs wk fb (fo + i * 4) _ := ⟨hcw⟩
  have holf : OldIs SS fb := hold hcw
  obtain ⟨_, _, _, bb, bo, hba, hbel⟩ := hbw.at
  obtain ⟨rb, ro, hadr, holr, hrel⟩ := slOf hrk hold (fun _ _ h => ⟨_, [], h.1⟩) (by intro e; have := partsI_len X.blocks; rw [e] at this; simp at this; omega)
  obtain ⟨sb, so, hads, hols, hsel⟩ := slOf hsk hold (fun _ _ h => ⟨_, [], h⟩) (by intro e; have := seenOf_length X.blocks 0; rw [e] at this; simp at this; omega)
  rw [show (!decide ((0 : Int) = 0)) = false by simp]
  repeat (first | refine g_op rfl ?_ | refine g_open ?_)
  rw [show decide ((i : Int) < 0) = false by simp]
  repeat (refine g_op rfl ?_)
  rw [show decide ((fn : Int) ≤ (i : Int)) = false by simp; omega]
  repeat (first | refine g_op rfl ?_ | refine g_open ?_)
  rw [show (!decide ((bn : Int) = (bn : Int))) = false by simp]
  repeat (first | refine g_op rfl ?_ | refine g_then ?_ | refine g_nil ?_ | refine g_open ?_)
  rw [show (!decide ((bn : Int) = (bn : Int))) = false by simp]
  repeat (first | refine g_op rfl ?_ | refine g_then ?_ | refine g_nil ?_ | refine g_region ?_ | refine g_seq ?_ | refine g_block ?_ | refine g_skip ?_ | refine g_condF ?_)
  have hrall := ringAt_all hok hpos
  rw [← hbn] at hrall
  refine g_fix (L' := [(12, .int .i64 ((0 : Nat) : Int)), (11, .bool (decide (RingAt X.blocks 0 0))), (9, .slice sa bn sc), (7, .slice ka (backL X.blocks).length kc), (5, .slice ra bn rc), (2, .pointer (some ⟨p2, 0, none⟩)), (1, .int .i64 i)]) (by rw [decide_eq_false (fun h : RingAt X.blocks 0 0 => by rcases h with ⟨_, h, _⟩ | ⟨_, h, _⟩ <;> omega)]; exact (by repeat (first | exact trivial | refine ⟨rfl, ?_⟩))) (List.Sublist.refl _) ?_
  refine g_loop (fun (b : Nat) => b ≤ bn) (fun b => [(12, .int .i64 b), (11, .bool (decide (RingAt X.blocks b 0))), (9, .slice sa bn sc), (7, .slice ka (backL X.blocks).length kc), (5, .slice ra bn rc), (2, .pointer (some ⟨p2, 0, none⟩)), (1, .int .i64 i)]) (fun _ => [Ent.box p10 [.int .i64 0, .int .i64 0] 29, Ent.box p8 [.int .i64 0, .int .i64 0] 29, Ent.box p6 [.int .i64 0, .int .i64 0] 29, Ent.box p2 [.slice ga gn gc, .slice fa fn fc] 25]) (fun b => bn - b) 0 (Nat.zero_le _) (g_done (by repeat (first | exact trivial | refine ⟨rfl, ?_⟩)) (List.Sublist.refl _)) fun b hb => ?_
  repeat (first | refine g_op rfl ?_ | refine g_then ?_ | refine g_nil ?_ | refine g_region ?_ | refine g_seq ?_)
  refine g_cond (fun h1 => ?_) (fun h1 => ?_)
  · have hlt : b < bn := by simpa using h1
    have hlb : LtIs b bn := ⟨hlt⟩
    have hps := part_spec (bl := X.blocks) (b := b) (by omega)
    have hpp := part_part (bl := X.blocks) (b := b) (by omega)
    have hlq : LtIs (partOf X.blocks b) bn := ⟨by omega⟩
    obtain ⟨csb, hcb, rfl, _⟩ := hrel b _ (partsI_get (by omega))
    obtain ⟨csq, hcq, rfl, _⟩ := hrel (partOf X.blocks b) _ (partsI_get (by omega))
    rw [hpp] at hcq
    obtain ⟨csr, hcr, rfl⟩ := hsel b _ (seenOf_get (by omega))
    obtain ⟨B, hB⟩ : ∃ B, X.blocks[b]? = some B := ⟨_, List.getElem?_eq_getElem (by omega)⟩
    have hadb : AddrIs ba bb bo := ⟨hba (ne_of_get hB)⟩
    obtain ⟨csB, hcsB, pv, lv, tv, rfl, _, _, _, _, htv⟩ := hbel b B hB
    have htv0 := htv
    obtain ⟨ta, tn, tc, tb, to, rfl, htn, htnc, htnb, htcb, hta, htel⟩ := htv0
    have hciB : CellsIs wk bb (bo + b * 6) _ := ⟨hcsB⟩
    have holB : OldIs SS bb := hold hcsB
    have htoOf := toOf_get hB
    have hedge : decide ((b : Int) ∈ B.to) = decide (Edge X.blocks b b) := by
      rw [decide_eq_decide]; unfold Edge; rw [htoOf]
    repeat (first | refine g_then ?_ | refine g_seq ?_ | refine g_block ?_ | refine g_skip ?_)
    refine g_draw mixed (by kernel_rfl) ?_
    repeat (first | refine q_op rfl ?_ | refine q_open ?_)
    rw [show decide ((partOf X.blocks b : Int) < 0) = false by simp]
    repeat (refine q_op rfl ?_)
    rw [show decide ((b : Int) < (partOf X.blocks b : Int)) = false by simp; omega]
    repeat (first | refine q_op rfl ?_ | refine q_open ?_ | refine q_nil ?_)
    rw [show (!decide ((partOf X.blocks b : Int) = (partOf X.blocks b : Int))) = false by simp]
    skip
    repeat (first | refine g_op rfl ?_ | refine g_then ?_ | refine g_nil ?_ | refine g_region ?_ | refine g_seq ?_ | refine g_block ?_ | refine g_skip ?_ | refine g_condF ?_)
    refine g_loop (fun (c : Nat) => c ≤ bn) (fun c => [(13, .int .i64 c), (11, .bool (decide (RingAt X.blocks b c))), (12, .int .i64 b), (9, .slice sa bn sc), (7, .slice ka (backL X.blocks).length kc), (5, .slice ra bn rc), (2, .pointer (some ⟨p2, 0, none⟩)), (1, .int .i64 i)]) (fun _ => [Ent.box p10 [.int .i64 0, .int .i64 0] 29, Ent.box p8 [.int .i64 0, .int .i64 0] 29, Ent.box p6 [.int .i64 0, .int .i64 0] 29, Ent.box p2 [.slice ga gn gc, .slice fa fn fc] 25]) (fun c => bn - c) 0 (Nat.zero_le _) (g_done (by repeat (first | exact trivial | refine ⟨rfl, ?_⟩)) (List.Sublist.refl _)) fun c hc => ?_
    repeat (first | refine g_op rfl ?_ | refine g_then ?_ | refine g_nil ?_ | refine g_region ?_ | refine g_seq ?_)
    refine g_cond (fun h2 => ?_) (fun h2 => ?_)
    · have hcl : c < bn := by simpa using h2
      have hlc : LtIs c bn := ⟨hcl⟩
      obtain ⟨csc, hcc, rfl, _⟩ := hrel c _ (partsI_get (by omega))
      have hyes : Hit X.blocks b c → decide (RingAt X.blocks b (c + 1)) = true := fun h => decide_eq_true (ringAt_succ.2 (.inr h))
      have hno : ¬ Hit X.blocks b c → decide (RingAt X.blocks b (c + 1)) = decide (RingAt X.blocks b c) := fun h => decide_eq_decide.2 (ringAt_succ.trans ⟨fun k => k.resolve_right h, .inl⟩)
      have hec : decide ((partOf X.blocks b : Int) = (partOf X.blocks c : Int)) = decide (partOf X.blocks b = partOf X.blocks c) := by rw [decide_eq_decide, Int.natCast_inj]
      repeat (first | refine g_then ?_ | refine g_seq ?_ | refine g_block ?_ | refine g_skip ?_)
      refine g_draw mixed (by kernel_rfl) ?_
      repeat (refine q_op rfl ?_)
      by_cases hr : Rch X.blocks (-1) 0 b
      · rw [decide_eq_true hr]
        repeat (first | refine q_op rfl ?_ | refine q_open ?_)
        rw [hec]
        by_cases he : partOf X.blocks b = partOf X.blocks c
        · rw [decide_eq_true he]
          repeat (first | refine q_op rfl ?_ | refine q_open ?_)
          by_cases hne : b = c
          · rw [show (!decide ((b : Int) = (c : Int))) = false by simp; omega]
            repeat (first | refine q_op rfl ?_ | refine q_open ?_)
            refine q_call rfl (fun w hw => has_c _ B.to b w (SlAt.mono (V := IntV) (w := wk) (w' := w) (fun _ _ h => h) (hkp hw) htv)) ?_
            rw [hedge]
            by_cases hd : Edge X.blocks b b
            · rw [decide_eq_true hd]
              repeat (first | refine q_op rfl ?_ | refine q_open ?_ | refine q_nil ?_)
              repeat (first | refine g_op rfl ?_ | refine g_then ?_ | refine g_nil ?_ | refine g_region ?_ | refine g_opS rfl ?_ | refine g_inBlock ?_ | refine g_condT ?_ | refine g_add rfl (by omega) (by omega) ?_)
              refine g_fix (L' := [(13, .int .i64 ((c : Int) + 1)), (11, .bool (decide (RingAt X.blocks b (c + 1)))), (12, .int .i64 b), (9, .slice sa bn sc), (7, .slice ka (backL X.blocks).length kc), (5, .slice ra bn rc), (2, .pointer (some ⟨p2, 0, none⟩)), (1, .int .i64 i)]) (by rw [hyes ⟨hr, he, .inr hd⟩]; exact (by repeat (first | exact trivial | refine ⟨rfl, ?_⟩))) (List.Sublist.refl _) ?_
              exact g_next (c + 1) hcl (by omega) (by repeat (first | exact trivial | refine ⟨rfl, ?_⟩)) (List.Sublist.refl _)
            · rw [decide_eq_false hd]
              repeat (first | refine q_op rfl ?_ | refine q_open ?_ | refine q_nil ?_)
              repeat (first | refine g_op rfl ?_ | refine g_then ?_ | refine g_nil ?_ | refine g_region ?_ | refine g_opS rfl ?_ | refine g_inBlock ?_ | refine g_skip ?_ | refine g_condF ?_ | refine g_add rfl (by omega) (by omega) ?_)
              refine g_fix (L' := [(13, .int .i64 ((c : Int) + 1)), (11, .bool (decide (RingAt X.blocks b (c + 1)))), (12, .int .i64 b), (9, .slice sa bn sc), (7, .slice ka (backL X.blocks).length kc), (5, .slice ra bn rc), (2, .pointer (some ⟨p2, 0, none⟩)), (1, .int .i64 i)]) (by rw [hno fun h => by rcases h.2.2 with k | k; exact k hne; exact hd k]; exact (by repeat (first | exact trivial | refine ⟨rfl, ?_⟩))) (List.Sublist.refl _) ?_
              exact g_next (c + 1) hcl (by omega) (by repeat (first | exact trivial | refine ⟨rfl, ?_⟩)) (List.Sublist.refl _)
          · rw [show (!decide ((b : Int) = (c : Int))) = true by simp; omega]
            repeat (first | refine q_op rfl ?_ | refine q_open ?_ | refine q_pass rfl ?_ | refine q_nil ?_)
            repeat (first | refine g_op rfl ?_ | refine g_then ?_ | refine g_nil ?_ | refine g_region ?_ | refine g_opS rfl ?_ | refine g_inBlock ?_ | refine g_condT ?_ | refine g_add rfl (by omega) (by omega) ?_)
            refine g_fix (L' := [(13, .int .i64 ((c : Int) + 1)), (11, .bool (decide (RingAt X.blocks b (c + 1)))), (12, .int .i64 b), (9, .slice sa bn sc), (7, .slice ka (backL X.blocks).length kc), (5, .slice ra bn rc), (2, .pointer (some ⟨p2, 0, none⟩)), (1, .int .i64 i)]) (by rw [hyes ⟨hr, he, .inl hne⟩]; exact (by repeat (first | exact trivial | refine ⟨rfl, ?_⟩))) (List.Sublist.refl _) ?_
            exact g_next (c + 1) hcl (by omega) (by repeat (first | exact trivial | refine ⟨rfl, ?_⟩)) (List.Sublist.refl _)
        · rw [decide_eq_false he]
          repeat (first | refine q_op rfl ?_ | refine q_pass rfl ?_ | refine q_passU rfl ?_ | refine q_nil ?_)
          repeat (first | refine g_op rfl ?_ | refine g_then ?_ | refine g_nil ?_ | refine g_region ?_ | refine g_opS rfl ?_ | refine g_inBlock ?_ | refine g_skip ?_ | refine g_condF ?_ | refine g_add rfl (by omega) (by omega) ?_)
          refine g_fix (L' := [(13, .int .i64 ((c : Int) + 1)), (11, .bool (decide (RingAt X.blocks b (c + 1)))), (12, .int .i64 b), (9, .slice sa bn sc), (7, .slice ka (backL X.blocks).length kc), (5, .slice ra bn rc), (2, .pointer (some ⟨p2, 0, none⟩)), (1, .int .i64 i)]) (by rw [hno fun h => he h.2.1]; exact (by repeat (first | exact trivial | refine ⟨rfl, ?_⟩))) (List.Sublist.refl _) ?_
          exact g_next (c + 1) hcl (by omega) (by repeat (first | exact trivial | refine ⟨rfl, ?_⟩)) (List.Sublist.refl _)
      · rw [decide_eq_false hr]
        repeat (first | refine q_op rfl ?_ | refine q_pass rfl ?_ | refine q_passU rfl ?_ | refine q_nil ?_)
        repeat (first | refine g_op rfl ?_ | refine g_then ?_ | refine g_nil ?_ | refine g_region ?_ | refine g_opS rfl ?_ | refine g_inBlock ?_ | refine g_skip ?_ | refine g_condF ?_ | refine g_add rfl (by omega) (by omega) ?_)
        refine g_fix (L' := [(13, .int .i64 ((c : Int) + 1)), (11, .bool (decide (RingAt X.blocks b (c + 1)))), (12, .int .i64 b), (9, .slice sa bn sc), (7, .slice ka (backL X.blocks).length kc), (5, .slice ra bn rc), (2, .pointer (some ⟨p2, 0, none⟩)), (1, .int .i64 i)]) (by rw [hno fun h => hr h.1]; exact (by repeat (first | exact trivial | refine ⟨rfl, ?_⟩))) (List.Sublist.refl _) ?_
        exact g_next (c + 1) hcl (by omega) (by repeat (first | exact trivial | refine ⟨rfl, ?_⟩)) (List.Sublist.refl _)
    · have hge : c = bn := by have := h2; simp at this; omega
      rw [hge, hbn, decide_eq_decide.2 (ringAt_row (bl := X.blocks) (b := b)), ← hbn]
      repeat (first | refine g_op rfl ?_ | refine g_then ?_ | refine g_nil ?_ | refine g_region ?_ | refine g_opS rfl ?_ | refine g_inBlock ?_ | refine g_add rfl (by omega) (by omega) ?_ | refine g_exit ?_ | refine g_thenExit ?_ | refine g_exitHere ?_)
      exact g_next (b + 1) hlt (by omega) (by repeat (first | exact trivial | refine ⟨rfl, ?_⟩)) (List.Sublist.refl _)
  · have hge : b = bn := by have := h1; simp at this; omega
    rw [hge, decide_eq_decide.2 hrall]
    repeat (first | refine g_op rfl ?_ | refine g_then ?_ | refine g_nil ?_ | refine g_region ?_ | refine g_seq ?_ | refine g_exit ?_ | refine g_thenExit ?_ | refine g_exitHere ?_ | refine g_ret ?_)
    rw [show decide ((0 : Int) < ((backL X.blocks).length : Int)) = decide (0 < (backL X.blocks).length) by rw [decide_eq_decide]; omega]
    generalize decide (0 < (backL X.blocks).length) = d
    rw [show (d == d) = true by simp]
    skip
    exact g_ret1 rfl fun w hw => ⟨rfl, (back hw).chg⟩
end Go.Proofs.YtoahickmkkcneaaDoor
