/- Texts joined: Flow. -/
import Derived.Test.YtoahickmkkcneaaDoorGI
import Derived.Test.YtoahickmkkcneaaDoorGJ
import Derived.Test.YtoahickmkkcneaaDoorGU
/- The law LiveFlows, walked: what is wanted at a block's start is wanted at the end of each that leads to it. -/
namespace Go.Proofs.YtoahickmkkcneaaDoor
open Go Go.RowKit
attribute [local irreducible] wpListIn Code.wpIn Exit.then Exit.inBlock bodyPost wpQuiet wpAnyIn wpAnyH bodyPostM
set_option maxHeartbeats 8000000

theorem inG_len (bl : List LBlock) (R : Nat) : (inG bl R).length = bl.length := by unfold inG; rw [List.length_map, List.length_range]
theorem outG_len (bl : List LBlock) (R : Nat) : (outG bl R).length = bl.length := by unfold outG; rw [List.length_map, List.length_range]
theorem atG_len (bl : List LBlock) (R b n : Nat) : (atG bl R b n).length = n + 1 := by unfold atG; rw [List.length_map, List.length_range]
theorem liveS_in {bl : List LBlock} {r b : Nat} (h : LiveS bl r b (-1)) : LiveS bl r b 0 := by
  generalize hj : (-1 : Int) = j at h
  cases h with
  | phi _ _ h => exact h
  | use _ _ _ => omega
  | go _ _ _ _ => omega
  | on _ _ => omega
  | take _ h _ _ => omega
  | jump _ h _ _ => omega
theorem liveS_out {bl : List LBlock} {r b : Nat} {B : LBlock} (hB : bl[b]? = some B) (h : LiveS bl r b ((B.list.length : Int) + 1)) : LiveS bl r b B.list.length := by
  generalize hj : (B.list.length : Int) + 1 = j at h
  cases h with
  | phi _ _ _ => omega
  | use h1 h2 _ => rw [hB] at h1; obtain rfl := Option.some.inj h1; have := (List.getElem?_eq_some_iff.1 h2).1; omega
  | go h1 h2 _ _ => rw [hB] at h1; obtain rfl := Option.some.inj h1; have := (List.getElem?_eq_some_iff.1 h2).1; omega
  | on h1 _ => rw [hB] at h1; obtain rfl := Option.some.inj h1; omega
  | take h1 _ h3 h4 => rw [hB] at h1; obtain rfl := Option.some.inj h1; exact .take hB (.inl rfl) h3 h4
  | jump h1 _ h3 h4 => rw [hB] at h1; obtain rfl := Option.some.inj h1; exact .jump hB (.inl rfl) h3 h4
theorem liveS_flow {bl : List LBlock} {r b p : Nat} {B : LBlock} (hB : bl[p]? = some B) (he : (b : Int) ∈ B.to) (h : LiveS bl r b (-1)) : LiveS bl r p ((B.list.length : Int) + 1) :=
  .jump hB (.inr rfl) he h
theorem slOf' {w : World} {S : Nat → Prop} {α : Type} {s : Nat} {V : World → α → List Value → Prop} {a : Option Addr} {n c : Nat} {l : List α} (h : SlAt w (.slice a n c) s l V) (hold : ∀ {b o : Nat} {v : Value} {l : List Value}, CellsAt w b o (v :: l) → OldIs S b) (hV : ∀ x cs, V w x cs → ∃ v r, cs = v :: r) (h0 : l ≠ []) :
    ∃ b o : Nat, AddrIs a b o ∧ OldIs S b ∧ ∀ i x, l[i]? = some x → ∃ cs, CellsIs w b (o + i * s) cs ∧ V w x cs := by
  obtain ⟨_, _, _, b, o, ha, hel⟩ := h.at
  refine ⟨b, o, ⟨ha h0⟩, ?_, fun i x hi => ?_⟩
  · obtain ⟨x, hx⟩ : ∃ x, l[0]? = some x := ⟨_, List.getElem?_eq_getElem (List.length_pos_iff.2 h0)⟩
    obtain ⟨cs, hc, hv⟩ := hel 0 x hx
    obtain ⟨v, r, rfl⟩ := hV x cs hv
    exact hold hc
  · obtain ⟨cs, hc, hv⟩ := hel i x hi
    exact ⟨cs, ⟨hc⟩, hv⟩
theorem mem_intsL {bl : List LBlock} {R r : Nat} {s : Sp} : (r : Int) ∈ intsL (liveN bl R s) ↔ r < R ∧ LiveS bl r s.1 s.2 := by
  classical
  unfold intsL
  rw [mem_ints]
  unfold liveN
  rw [List.mem_filter, List.mem_range]
  simp
theorem intsL_nat {l : List Nat} {x : Int} (h : x ∈ intsL l) : ∃ r : Nat, x = r := by
  obtain ⟨r, _, rfl⟩ := List.mem_map.1 h
  exact ⟨r, rfl⟩
theorem inK (u : LUnit) (hl : light u) (k : Nat) (hgood : (askedL u k).1 = 0) (X : LFunc) (hX : u.funcs[k]? = some X) (hch : (checkL u).1 = 0) (hR : X.regs.toNat ≤ 100) (g fs : Value) (w0 : World) (hg : SlAt w0 g 3 u.globals GlobalV) (hf : SlAt w0 fs 4 u.funcs FuncV) (hways : CellsAt w0 0 0 waysC) :
    RetK Tryd.prog 18 [.agg #[g, fs], .int .i64 k] w0 1 (inG X.blocks X.regs.toNat) RowV fun v => .tuple #[v, .agg #[.int .i64 0, .int .i64 0]] :=
  retK_of (in_ok u hl k hgood X hX hch g fs w0 hg hf hways) fun x hx => ⟨x.1, x.2.1, by rw [inG_len], fun w2 hw => by
    have h24 := (hl.2 X (List.mem_of_getElem? hX)).1
    have hlen : x.2.2.length = X.blocks.length := by have := congrArg List.length hx; rwa [List.length_map, inG_len] at this
    rw [← hx, List.length_map]
    rw [← hlen] at hw
    exact rows_slB (H := []) (by rw [List.append_nil]; exact hw) (by omega) fun r hr => by
      have hm : r.l ∈ inG X.blocks X.regs.toNat := hx ▸ List.mem_map.2 ⟨r, hr, rfl⟩
      unfold inG at hm
      obtain ⟨b, _, e⟩ := List.mem_map.1 hm
      rw [← e]; exact intsL_bd hR⟩
theorem outK (u : LUnit) (hl : light u) (k : Nat) (hgood : (askedL u k).1 = 0) (X : LFunc) (hX : u.funcs[k]? = some X) (hch : (checkL u).1 = 0) (hR : X.regs.toNat ≤ 100) (g fs : Value) (w0 : World) (hg : SlAt w0 g 3 u.globals GlobalV) (hf : SlAt w0 fs 4 u.funcs FuncV) (hways : CellsAt w0 0 0 waysC) :
    RetK Tryd.prog 19 [.agg #[g, fs], .int .i64 k] w0 1 (outG X.blocks X.regs.toNat) RowV fun v => .tuple #[v, .agg #[.int .i64 0, .int .i64 0]] :=
  retK_of (out_ok u hl k hgood X hX hch g fs w0 hg hf hways) fun x hx => ⟨x.1, x.2.1, by rw [outG_len], fun w2 hw => by
    have h24 := (hl.2 X (List.mem_of_getElem? hX)).1
    have hlen : x.2.2.length = X.blocks.length := by have := congrArg List.length hx; rwa [List.length_map, outG_len] at this
    rw [← hx, List.length_map]
    rw [← hlen] at hw
    exact rows_slB (H := []) (by rw [List.append_nil]; exact hw) (by omega) fun r hr => by
      have hm : r.l ∈ outG X.blocks X.regs.toNat := hx ▸ List.mem_map.2 ⟨r, hr, rfl⟩
      unfold outG at hm
      obtain ⟨b, _, e⟩ := List.mem_map.1 hm
      rw [← e]; exact intsL_bd hR⟩
theorem flowLaw_c (u : LUnit) (k : Int) (hk : inI k) (g fs : Value) (w0 : World) (hg : SlAt w0 g 3 u.globals GlobalV) (hf : SlAt w0 fs 4 u.funcs FuncV) (hways : CellsAt w0 0 0 waysC) :
    RetV Tryd.prog 3 [.agg #[g, fs], .int .i64 k] w0 (.bool true) := by
  classical
  have hg0 := hg
  have hf0 := hf
  obtain ⟨ga, gn, gc, gb, go, rfl, _⟩ := hg
  obtain ⟨fa, fn, fc, fb, fo, rfl, hfn, hfnc, hfnb, hfc, hfa, hfel⟩ := hf
  refine ret_enter Tryd.func3 rfl Tryd.ntmps3 rfl (Wd.nil NoS w0) ?_
  repeat (first | refine g_op rfl ?_ | refine g_then ?_ | refine g_nil ?_ | refine g_region ?_ | refine g_seq ?_ | refine g_box rfl fun _ _ => ?_)
  rename_i p2 _
  refine g_callE (val := fun b : Bool => .bool b) (E := fun _ => []) (φ := fun b => b = false → light u) rfl (fun w hw => heavy_c u _ _ w (hf0.keep keeps_func hw.chg) ⟨_, _, _, rfl⟩) fun b hb => ?_
  simp only [List.nil_append]
  cases b
  case true =>
    repeat (first | refine g_then ?_ | refine g_nil ?_ | refine g_region ?_ | refine g_seq ?_ | refine g_opS rfl ?_ | refine g_condT ?_ | refine g_ret ?_ | refine g_thenRet ?_)
    exact g_retV rfl rfl
  have hl := hb rfl
  repeat (first | refine g_op rfl ?_ | refine g_then ?_ | refine g_nil ?_ | refine g_region ?_ | refine g_seq ?_ | refine g_skip ?_ | refine g_condF ?_)
  by_cases hbad : (askedL u k).1 ≠ 0
  · refine g_callV rfl (fun w hw => in_bad u hl k hk hbad _ _ w (hg0.keep keeps_global hw.chg) (hf0.keep keeps_func hw.chg) (hways.keep hw.chg)) ?_
    repeat (first | refine g_op rfl ?_ | refine g_then ?_ | refine g_nil ?_ | refine g_region ?_ | refine g_seq ?_ | refine g_alloc rfl fun _ _ => ?_ | refine g_storeAgg ?_)
    refine g_callV rfl (fun w hw => out_bad u hl k hk hbad _ _ w (hg0.keep keeps_global hw.chg) (hf0.keep keeps_func hw.chg) (hways.keep hw.chg)) ?_
    repeat (first | refine g_op rfl ?_ | refine g_then ?_ | refine g_nil ?_ | refine g_region ?_ | refine g_seq ?_ | refine g_alloc rfl fun _ _ => ?_ | refine g_storeAgg ?_)
    refine g_cond (fun h1 => ?_) (fun h1 => ?_)
    · repeat (first | refine g_op rfl ?_ | refine g_region ?_ | refine g_seq ?_)
      rw [show (decide ((askedL u k).1 = (askedL u k).1) && decide ((askedL u k).2 = (askedL u k).2)) = true by simp]
      repeat (first | refine g_op rfl ?_ | refine g_open ?_)
      rw [show decide (((0 : Nat) : Int) = 0) = true from rfl]
      repeat (first | refine g_op rfl ?_ | refine g_then ?_ | refine g_nil ?_ | refine g_opS rfl ?_ | refine g_ret ?_ | refine g_thenRet ?_)
      exact g_retV rfl rfl
    · exact absurd h1 (by simp [hbad])
  have hgood : (askedL u k).1 = 0 := by simpa using hbad
  obtain ⟨hch, has, i, X, rfl, hX, hok⟩ := asked_ok hgood
  have hpos := check_pos hch hX
  have hil : i < fn := by rw [hfn]; exact (List.getElem?_eq_some_iff.1 hX).1
  have had : AddrIs fa fb fo := ⟨hfa (ne_of_get hX)⟩
  have hli : LtIs i fn := ⟨hil⟩
  obtain ⟨cs, hcs, bv, rfl, hpi, hri, hbv⟩ := hfel i X hX
  have hci : CellsIs w0 fb (fo + i * 4) _ := ⟨hcs⟩
  have hbv0 := hbv
  obtain ⟨ba, bn, bc, _, _, rfl, hbn, _⟩ := hbv
  have h24 := (hl.2 X (List.mem_of_getElem? hX)).1
  have hR : X.regs.toNat ≤ 100 := by
    obtain ⟨R, hXR, hR, hFO⟩ := check_func hch hX
    omega
  refine g_callK (s := 1) (l := inG X.blocks X.regs.toNat) (V := RowV) (mk := fun v => .tuple #[v, .agg #[.int .i64 0, .int .i64 0]]) rfl (fun w hw => inK u hl i hgood X hX hch hR _ _ w (hg0.keep keeps_global hw.chg) (hf0.keep keeps_func hw.chg) (hways.keep hw.chg)) fun ra rc rp => ?_
  repeat (first | refine g_op rfl ?_ | refine g_then ?_ | refine g_nil ?_ | refine g_region ?_ | refine g_seq ?_ | refine g_alloc rfl fun _ _ => ?_ | refine g_storeAgg ?_)
  rename_i p6 _
  refine g_callK (s := 1) (l := outG X.blocks X.regs.toNat) (V := RowV) (mk := fun v => .tuple #[v, .agg #[.int .i64 0, .int .i64 0]]) rfl (fun w hw => outK u hl i hgood X hX hch hR _ _ w (hg0.keep keeps_global hw.chg) (hf0.keep keeps_func hw.chg) (hways.keep hw.chg)) fun sa sc sp => ?_
  rw [inG_len, outG_len, ← hbn]
  repeat (first | refine g_op rfl ?_ | refine g_then ?_ | refine g_nil ?_ | refine g_region ?_ | refine g_seq ?_ | refine g_open ?_ | refine g_alloc rfl fun _ _ => ?_ | refine g_storeAgg ?_ | refine g_skip ?_ | refine g_condF ?_)
  rename_i p8 _
  refine g_sel [0, 2, 4, 1, 3] (by decide) ?_
  refine g_eqH (H1 := [Ent.box p8 [.int .i64 0, .int .i64 0] 29, Ent.box p6 [.int .i64 0, .int .i64 0] 29, Ent.box p2 [.slice ga gn gc, .slice fa fn fc] 25] ++ [(⟨sp, fun w => SlAt w (.slice sa bn sc) 1 (outG X.blocks X.regs.toNat) RowV⟩ : Ent), (⟨rp, fun w => SlAt w (.slice ra bn rc) 1 (inG X.blocks X.regs.toNat) RowV⟩ : Ent)]) rfl ?_
  refine g_holdK fun w1 hw1 => ?_
  have hrk : SlAt (killW (fps [Ent.box p8 [.int .i64 0, .int .i64 0] 29, Ent.box p6 [.int .i64 0, .int .i64 0] 29, Ent.box p2 [.slice ga gn gc, .slice fa fn fc] 25]) w1) (.slice ra bn rc) 1 (inG X.blocks X.regs.toNat) RowV := hw1.beside (e := (⟨rp, fun w => SlAt w (.slice ra bn rc) 1 (inG X.blocks X.regs.toNat) RowV⟩ : Ent)) (by simp)
  have hsk : SlAt (killW (fps [Ent.box p8 [.int .i64 0, .int .i64 0] 29, Ent.box p6 [.int .i64 0, .int .i64 0] 29, Ent.box p2 [.slice ga gn gc, .slice fa fn fc] 25]) w1) (.slice sa bn sc) 1 (outG X.blocks X.regs.toNat) RowV := hw1.beside (e := (⟨sp, fun w => SlAt w (.slice sa bn sc) 1 (outG X.blocks X.regs.toNat) RowV⟩ : Ent)) (by simp)
  have back : ∀ {E : List Ent} {w : World}, Wd (fps [Ent.box p8 [.int .i64 0, .int .i64 0] 29, Ent.box p6 [.int .i64 0, .int .i64 0] 29, Ent.box p2 [.slice ga gn gc, .slice fa fn fc] 25]) (killW (fps [Ent.box p8 [.int .i64 0, .int .i64 0] 29, Ent.box p6 [.int .i64 0, .int .i64 0] 29, Ent.box p2 [.slice ga gn gc, .slice fa fn fc] 25]) w1) E w → Wd NoS w0 (E ++ [(⟨sp, fun w => SlAt w (.slice sa bn sc) 1 (outG X.blocks X.regs.toNat) RowV⟩ : Ent), (⟨rp, fun w => SlAt w (.slice ra bn rc) 1 (inG X.blocks X.regs.toNat) RowV⟩ : Ent)]) w := fun hw => hw1.comp hw.unkill
  have hkp : ∀ {E : List Ent} {w : World}, Wd (fps [Ent.box p8 [.int .i64 0, .int .i64 0] 29, Ent.box p6 [.int .i64 0, .int .i64 0] 29, Ent.box p2 [.slice ga gn gc, .slice fa fn fc] 25]) (killW (fps [Ent.box p8 [.int .i64 0, .int .i64 0] 29, Ent.box p6 [.int .i64 0, .int .i64 0] 29, Ent.box p2 [.slice ga gn gc, .slice fa fn fc] 25]) w1) E w → ∀ p v, (killW (fps [Ent.box p8 [.int .i64 0, .int .i64 0] 29, Ent.box p6 [.int .i64 0, .int .i64 0] 29, Ent.box p2 [.slice ga gn gc, .slice fa fn fc] 25]) w1).cell? p = some v → w.cell? p = some v := fun hw => hw.killKeep
  have hold : ∀ {b o : Nat} {v : Value} {l : List Value}, CellsAt (killW (fps [Ent.box p8 [.int .i64 0, .int .i64 0] 29, Ent.box p6 [.int .i64 0, .int .i64 0] 29, Ent.box p2 [.slice ga gn gc, .slice fa fn fc] 25]) w1) b o (v :: l) → OldIs (fps [Ent.box p8 [.int .i64 0, .int .i64 0] 29, Ent.box p6 [.int .i64 0, .int .i64 0] 29, Ent.box p2 [.slice ga gn gc, .slice fa fn fc] 25]) b := fun hc => killOldIs hc (by simp)
  have hbw := hbv0.keep keeps_block hw1.killOld
  have hcw := hcs.keep hw1.killOld
  generalize killW (fps [Ent.box p8 [.int .i64 0, .int .i64 0] 29, Ent.box p6 [.int .i64 0, .int .i64 0] 29, Ent.box p2 [.slice ga gn gc, .slice fa fn fc] 25]) w1 = wk at *
  generalize fps [Ent.box p8 [.int .i64 0, .int .i64 0] 29, Ent.box p6 [.int .i64 0, .int .i64 0] 29, Ent.box p2 [.slice ga gn gc, .slice fa fn fc] 25] = SS at *
  have hciw : CellsIs wk fb (fo + i * 4) _ := ⟨hcw⟩
  have holf : OldIs SS fb := hold hcw
  obtain ⟨_, _, _, bb, bo, hba, hbel⟩ := hbw.at
  obtain ⟨kb, ko, hadk, holk, htab⟩ := tabsOf hrk hold (by intro e; have := inG_len X.blocks X.regs.toNat; rw [e] at this; simp at this; omega)
  obtain ⟨sb, so, hads, hols, hsab⟩ := tabsOf hsk hold (by intro e; have := outG_len X.blocks X.regs.toNat; rw [e] at this; simp at this; omega)
  rw [show (!decide ((0 : Int) = 0)) = false by simp]
  repeat (first | refine g_op rfl ?_ | refine g_open ?_)
  rw [show decide ((i : Int) < 0) = false by simp]
  repeat (refine g_op rfl ?_)
  rw [show decide ((fn : Int) ≤ (i : Int)) = false by simp; omega]
  repeat (first | refine g_op rfl ?_ | refine g_open ?_)
  rw [show (!decide ((bn : Int) = (bn : Int))) = false by simp]
  repeat (first | refine g_op rfl ?_ | refine g_then ?_ | refine g_nil ?_ | refine g_open ?_)
  rw [show (!decide ((bn : Int) = (bn : Int))) = false by simp]
  repeat (first | refine g_op rfl ?_ | refine g_then ?_ | refine g_nil ?_ | refine g_region ?_ | refine g_seq ?_ | refine g_block ?_ | refine g_skip ?_ | refine g_condF ?_)
  refine g_loop (fun (b : Nat) => b ≤ bn) (fun b => [(9, .int .i64 b), (7, .slice sa bn sc), (5, .slice ra bn rc), (2, .pointer (some ⟨p2, 0, none⟩)), (1, .int .i64 i)]) (fun _ => [Ent.box p8 [.int .i64 0, .int .i64 0] 29, Ent.box p6 [.int .i64 0, .int .i64 0] 29, Ent.box p2 [.slice ga gn gc, .slice fa fn fc] 25]) (fun b => bn - b) 0 (Nat.zero_le _) (g_done (by repeat (first | exact trivial | refine ⟨rfl, ?_⟩)) (List.Sublist.refl _)) fun b hb => ?_
  repeat (first | refine g_op rfl ?_ | refine g_then ?_ | refine g_nil ?_ | refine g_region ?_ | refine g_seq ?_)
  refine g_cond (fun h1 => ?_) (fun h1 => ?_)
  · have hlt : b < bn := by simpa using h1
    have hlb : LtIs b bn := ⟨hlt⟩
    obtain ⟨B, hB⟩ : ∃ B, X.blocks[b]? = some B := ⟨_, List.getElem?_eq_getElem (by omega)⟩
    obtain ⟨va, vc, hcib, hrowb⟩ := htab b _ (inG_get (by omega))
    obtain ⟨ua, uc, hciu, hrowu⟩ := hsab b _ (outG_get hB)
    repeat (first | refine g_op rfl ?_ | refine g_then ?_ | refine g_region ?_ | refine g_seq ?_ | refine g_block ?_ | refine g_skip ?_)
    refine g_callE (val := fun x : Option Addr × Nat => .slice x.1 (preds X.blocks b).length x.2) (E := fun x => [Ent.vec x.1 (preds X.blocks b).length x.2 3 1 ((preds X.blocks b).map intN)]) (φ := fun _ => True) rfl (fun w hw => refAhead_c _ _ _ X.blocks _ b w (hbv0.keep keeps_block (back hw).chg) (by omega)) fun x _ => ?_
    obtain ⟨pa, pc⟩ := x
    simp only [List.cons_append, List.nil_append]
    repeat (first | refine g_op rfl ?_ | refine g_then ?_ | refine g_nil ?_ | refine g_region ?_ | refine g_seq ?_ | refine g_block ?_)
    have hpm : ∀ p ∈ preds X.blocks b, p < bn ∧ Edge X.blocks p b := fun p hp => by
      simp only [preds, List.mem_filter, List.mem_range, decide_eq_true_eq] at hp
      exact ⟨by omega, hp.2⟩
    have hpl : (preds X.blocks b).length ≤ bn := by have := List.length_filter_le (fun i => decide ((b : Int) ∈ toOf X.blocks i)) (List.range X.blocks.length); rw [List.length_range] at this; unfold preds; omega
    generalize preds X.blocks b = ps at *
    have hinr : ∀ x ∈ intsL (liveN X.blocks X.regs.toNat (b, -1)), ∃ r : Nat, x = r ∧ r < X.regs.toNat ∧ LiveS X.blocks r b (-1) := fun x hx => by
      obtain ⟨r, rfl⟩ := intsL_nat hx
      exact ⟨r, rfl, mem_intsL.1 hx⟩
    have hil2 := (intsL_bd (bl := X.blocks) (s := (b, -1)) hR).1
    generalize intsL (liveN X.blocks X.regs.toNat (b, -1)) = ir at *
    obtain ⟨vb, vo, hvne, hvold, hvel⟩ : ∃ vb vo : Nat, (ir ≠ [] → AddrIs va vb vo) ∧ (ir ≠ [] → OldIs SS vb) ∧ ∀ (i : Nat) (x : Int), ir[i]? = some x → CellsIs wk vb (vo + i * 1) [.int .i64 x] := by
      by_cases hne : ir = []
      · exact ⟨0, 0, fun h => absurd hne h, fun h => absurd hne h, fun i x hx => by rw [hne] at hx; cases hx⟩
      · obtain ⟨vb, vo, h1, h2, h3⟩ := slOf' hrowb hold (fun _ _ h => ⟨_, [], h.1⟩) hne
        exact ⟨vb, vo, fun _ => h1, fun _ => h2, fun i x hx => by
          obtain ⟨cs, h4, rfl, _⟩ := h3 i x hx
          exact h4⟩
    refine g_loop (fun (x : Nat × Option Addr) => x.1 ≤ ps.length) (fun x => [(11, .int .i64 x.1), (10, .slice x.2 ps.length pc), (9, .int .i64 b), (7, .slice sa bn sc), (5, .slice ra bn rc), (2, .pointer (some ⟨p2, 0, none⟩)), (1, .int .i64 i)]) (fun x => Ent.vec x.2 ps.length pc 3 1 (ps.map intN) :: [Ent.box p8 [.int .i64 0, .int .i64 0] 29, Ent.box p6 [.int .i64 0, .int .i64 0] 29, Ent.box p2 [.slice ga gn gc, .slice fa fn fc] 25]) (fun x => ps.length - x.1) (0, pa) (Nat.zero_le _) (g_done (by repeat (first | exact trivial | refine ⟨rfl, ?_⟩)) (List.Sublist.refl _)) fun x hq => ?_
    obtain ⟨q, pa⟩ := x
    simp only at hq ⊢
    repeat (first | refine g_op rfl ?_ | refine g_then ?_ | refine g_nil ?_ | refine g_region ?_ | refine g_seq ?_)
    refine g_cond (fun h2 => ?_) (fun h2 => ?_)
    · have hqp : q < ps.length := by simpa using h2
      refine g_vec 0 rfl (by omega) fun pb po hpa => ?_
      subst hpa
      have hlq : LtIs q ps.length := ⟨hqp⟩
      obtain ⟨p, hp⟩ : ∃ p, ps[q]? = some p := ⟨_, List.getElem?_eq_getElem hqp⟩
      obtain ⟨hpn, hpe⟩ := hpm p (List.mem_of_getElem? hp)
      have hlp : LtIs p bn := ⟨hpn⟩
      have hxa : XAt (ps.map intN) (q * 1) (.int .i64 (p : Int)) := ⟨by simp [hp, intN]⟩
      obtain ⟨BP, hBP⟩ : ∃ B, X.blocks[p]? = some B := ⟨_, List.getElem?_eq_getElem (by omega)⟩
      obtain ⟨xa, xc, hcip, hrowp⟩ := hsab p _ (outG_get hBP)
      have hpto : (b : Int) ∈ BP.to := by have := hpe; unfold Edge at this; rwa [toOf_get hBP] at this
      repeat (first | refine g_op rfl ?_ | refine g_then ?_ | refine g_nil ?_ | refine g_region ?_ | refine g_seq ?_ | refine g_block ?_ | refine g_skip ?_)
      refine g_loop (fun (e : Nat) => e ≤ ir.length) (fun e => [(12, .int .i64 e), (11, .int .i64 q), (10, .slice (some ⟨pb, po, none⟩) ps.length pc), (9, .int .i64 b), (7, .slice sa bn sc), (5, .slice ra bn rc), (2, .pointer (some ⟨p2, 0, none⟩)), (1, .int .i64 i)]) (fun _ => Ent.vec (some ⟨pb, po, none⟩) ps.length pc 3 1 (ps.map intN) :: [Ent.box p8 [.int .i64 0, .int .i64 0] 29, Ent.box p6 [.int .i64 0, .int .i64 0] 29, Ent.box p2 [.slice ga gn gc, .slice fa fn fc] 25]) (fun e => ir.length - e) 0 (Nat.zero_le _) (g_done (by repeat (first | exact trivial | refine ⟨rfl, ?_⟩)) (List.Sublist.refl _)) fun e he => ?_
      repeat (first | refine g_op rfl ?_ | refine g_then ?_ | refine g_nil ?_ | refine g_region ?_ | refine g_seq ?_)
      refine g_cond (fun h3 => ?_) (fun h3 => ?_)
      · have hel : e < ir.length := by simpa using h3
        have hle : LtIs e ir.length := ⟨hel⟩
        have hirne : ir ≠ [] := List.length_pos_iff.1 (by omega)
        have hvne := hvne hirne
        have hvold := hvold hirne
        obtain ⟨y, hy⟩ : ∃ y, ir[e]? = some y := ⟨_, List.getElem?_eq_getElem hel⟩
        obtain ⟨r, rfl, hrR, hrl⟩ := hinr y (List.mem_of_getElem? hy)
        have hcy := hvel e _ hy
        repeat (first | refine g_then ?_ | refine g_seq ?_ | refine g_block ?_ | refine g_skip ?_)
        refine g_draw mixed (by kernel_rfl) ?_
        repeat (refine q_op rfl ?_)
        refine q_call rfl (fun w hw => has_c _ _ r w (SlAt.mono (V := IntV) (w := wk) (w' := w) (fun _ _ h => h) (hkp hw) hrowp)) ?_
        rw [decide_eq_true (mem_intsL.2 ⟨hrR, liveS_flow hBP hpto hrl⟩)]
        repeat (first | refine q_op rfl ?_ | refine q_nil ?_)
        repeat (first | refine g_op rfl ?_ | refine g_then ?_ | refine g_nil ?_ | refine g_region ?_ | refine g_opS rfl ?_ | refine g_inBlock ?_ | refine g_skip ?_ | refine g_condF ?_ | refine g_add rfl (by omega) (by omega) ?_)
        exact g_next (e + 1) hel (by omega) (by repeat (first | exact trivial | refine ⟨rfl, ?_⟩)) (List.Sublist.refl _)
      · have hge : e = ir.length := by have := h3; simp at this; omega
        repeat (first | refine g_op rfl ?_ | refine g_then ?_ | refine g_nil ?_ | refine g_region ?_ | refine g_opS rfl ?_ | refine g_inBlock ?_ | refine g_add rfl (by omega) (by omega) ?_ | refine g_exit ?_ | refine g_thenExit ?_ | refine g_exitHere ?_)
        exact g_next (q + 1, some ⟨pb, po, none⟩) hqp (by simp only; omega) (by repeat (first | exact trivial | refine ⟨rfl, ?_⟩)) (List.Sublist.refl _)
    · have hge : q = ps.length := by have := h2; simp at this; omega
      repeat (first | refine g_op rfl ?_ | refine g_then ?_ | refine g_region ?_ | refine g_seq ?_ | refine g_exit ?_ | refine g_thenExit ?_ | refine g_exitHere ?_)
      obtain ⟨csB, hcsB, pv, lv, tv, rfl, _, _, _, hlv, _⟩ := hbel b B hB
      obtain ⟨la, ln, lc, _, _, rfl, hln, _⟩ := hlv
      subst hln
      have hadb : AddrIs ba bb bo := ⟨hba (ne_of_get hB)⟩
      have hciB : CellsIs wk bb (bo + b * 6) _ := ⟨hcsB⟩
      have holB : OldIs SS bb := hold hcsB
      refine g_sel [1, 2, 3] (by decide) ?_
      refine g_callE (val := fun x : Option Addr × Nat × List Row => .tuple #[.slice x.1 (B.list.length + 1) x.2.1, .agg #[.int .i64 0, .int .i64 0]]) (E := fun x => Ent.vec x.1 (B.list.length + 1) x.2.1 35 1 (x.2.2.map valR) :: x.2.2.map entR) (φ := fun x => x.2.2.map (·.l) = atG X.blocks X.regs.toNat b B.list.length) rfl (fun w hw => at_ok u hl i hgood X hX hch b B hB _ _ w (hg0.keep keeps_global (back hw).chg) (hf0.keep keeps_func (back hw).chg) (hways.keep (back hw).chg)) fun x hat => ?_
      obtain ⟨ta, tc, rs⟩ := x
      simp only at hat ⊢
      have hrsl : rs.length = B.list.length + 1 := by have := congrArg List.length hat; rwa [List.length_map, atG_len] at this
      refine g_permH (H1 := [Ent.box p8 [.int .i64 0, .int .i64 0] 29, Ent.box p6 [.int .i64 0, .int .i64 0] 29, Ent.box p2 [.slice ga gn gc, .slice fa fn fc] 25] ++ (Ent.vec ta (B.list.length + 1) tc 35 1 (rs.map valR) :: rs.map entR)) List.perm_append_comm ?_
      simp only [List.cons_append, List.nil_append]
      refine g_vec 3 rfl (by omega) fun tb tz hta => ?_
      subst hta
      have hlens := light_lens (hl.2 X (List.mem_of_getElem? hX))
      repeat (first | refine g_op rfl ?_ | refine g_then ?_ | refine g_nil ?_ | refine g_region ?_ | refine g_seq ?_ | refine g_open ?_ | refine g_alloc rfl fun _ _ => ?_ | refine g_storeAgg ?_ | refine g_add rfl (by omega) (by omega) ?_)
      rename_i p14 _
      rw [show (!decide ((0 : Int) = 0)) = false by simp]
      repeat (first | refine g_op rfl ?_ | refine g_then ?_ | refine g_nil ?_)
      rw [show (!decide (((B.list.length + 1 : Nat) : Int) = (B.list.length : Int) + 1)) = false by simp]
      repeat (first | refine g_op rfl ?_ | refine g_then ?_ | refine g_nil ?_ | refine g_region ?_ | refine g_seq ?_ | refine g_block ?_ | refine g_skip ?_ | refine g_condF ?_)
      have hBl := (hlens B (List.mem_of_getElem? hB)).1
      have hatg : ∀ j, j ≤ B.list.length → ∃ r : Row, rs[j]? = some r ∧ r.l = intsL (liveN X.blocks X.regs.toNat (b, (j : Int))) := fun j hj => by
        obtain ⟨r, hr⟩ : ∃ r, rs[j]? = some r := ⟨_, List.getElem?_eq_getElem (by omega)⟩
        have h5 := congrArg (fun l : List (List Int) => l[j]?) hat
        simp only [List.getElem?_map, hr, Option.map_some] at h5
        unfold atG at h5
        rw [List.getElem?_map, List.getElem?_range (by omega)] at h5
        exact ⟨r, hr, by simpa using h5⟩
      obtain ⟨r0, hr0, hr0l⟩ := hatg 0 (Nat.zero_le _)
      obtain ⟨r1, hr1, hr1l⟩ := hatg B.list.length (Nat.le_refl _)
      have hxa0 : XAt (rs.map valR) (0 * 1) (.slice r0.a r0.l.length r0.c) := ⟨by simp [hr0, valR]⟩
      have hxa1 : XAt (rs.map valR) (B.list.length * 1) (.slice r1.a r1.l.length r1.c) := ⟨by simp [hr1, valR]⟩
      have hl00 : LtIs 0 (B.list.length + 1) := ⟨by omega⟩
      have hl01 : LtIs B.list.length (B.list.length + 1) := ⟨by omega⟩
      refine g_eqH (H1 := ([Ent.box p14 [.int .i64 0, .int .i64 0] 29, Ent.box p8 [.int .i64 0, .int .i64 0] 29, Ent.box p6 [.int .i64 0, .int .i64 0] 29, Ent.box p2 [.slice ga gn gc, .slice fa fn fc] 25, Ent.vec (some ⟨tb, tz, none⟩) (B.list.length + 1) tc 35 1 (rs.map valR)] ++ rs.map entR)) rfl ?_
      refine g_loop (fun (e : Nat) => e ≤ ir.length) (fun e => [(15, .int .i64 e), (13, .slice (some ⟨tb, tz, none⟩) (B.list.length + 1) tc), (9, .int .i64 b), (7, .slice sa bn sc), (5, .slice ra bn rc), (2, .pointer (some ⟨p2, 0, none⟩)), (1, .int .i64 i)]) (fun _ => ([Ent.box p14 [.int .i64 0, .int .i64 0] 29, Ent.box p8 [.int .i64 0, .int .i64 0] 29, Ent.box p6 [.int .i64 0, .int .i64 0] 29, Ent.box p2 [.slice ga gn gc, .slice fa fn fc] 25, Ent.vec (some ⟨tb, tz, none⟩) (B.list.length + 1) tc 35 1 (rs.map valR)] ++ rs.map entR)) (fun e => ir.length - e) 0 (Nat.zero_le _) (g_done (by repeat (first | exact trivial | refine ⟨rfl, ?_⟩)) (List.Sublist.refl _)) fun e he => ?_
      simp only [List.cons_append, List.nil_append]
      repeat (first | refine g_op rfl ?_ | refine g_then ?_ | refine g_nil ?_ | refine g_region ?_ | refine g_seq ?_)
      refine g_cond (fun h3 => ?_) (fun h3 => ?_)
      · have hel : e < ir.length := by simpa using h3
        have hle : LtIs e ir.length := ⟨hel⟩
        have hirne : ir ≠ [] := List.length_pos_iff.1 (by omega)
        have hvne := hvne hirne
        have hvold := hvold hirne
        obtain ⟨y, hy⟩ : ∃ y, ir[e]? = some y := ⟨_, List.getElem?_eq_getElem hel⟩
        obtain ⟨r, rfl, hrR, hrl⟩ := hinr y (List.mem_of_getElem? hy)
        have hcy := hvel e _ hy
        repeat (first | refine g_then ?_ | refine g_seq ?_ | refine g_block ?_ | refine g_skip ?_)
        refine g_draw mixed (by kernel_rfl) ?_
        repeat (refine q_op rfl ?_)
        refine q_call rfl (fun w hw => has_c _ r0.l r w (row_sl (E := [Ent.box p14 [.int .i64 0, .int .i64 0] 29, Ent.box p8 [.int .i64 0, .int .i64 0] 29, Ent.box p6 [.int .i64 0, .int .i64 0] 29, Ent.box p2 [.slice ga gn gc, .slice fa fn fc] 25, Ent.vec (some ⟨tb, tz, none⟩) (B.list.length + 1) tc 35 1 (rs.map valR)]) (H := []) (by rw [List.append_nil]; exact hw) hr0 (by rw [hr0l]; exact intsL_bd hR))) ?_
        rw [hr0l, decide_eq_true (mem_intsL.2 ⟨hrR, liveS_in hrl⟩)]
        repeat (first | refine q_op rfl ?_ | refine q_nil ?_)
        repeat (first | refine g_op rfl ?_ | refine g_then ?_ | refine g_nil ?_ | refine g_region ?_ | refine g_opS rfl ?_ | refine g_inBlock ?_ | refine g_skip ?_ | refine g_condF ?_ | refine g_add rfl (by omega) (by omega) ?_)
        exact g_next (e + 1) hel (by omega) (by repeat (first | exact trivial | refine ⟨rfl, ?_⟩)) (List.Sublist.refl _)
      have hge : e = ir.length := by have := h3; simp at this; omega
      repeat (first | refine g_op rfl ?_ | refine g_then ?_ | refine g_nil ?_ | refine g_region ?_ | refine g_seq ?_ | refine g_block ?_ | refine g_exit ?_ | refine g_thenExit ?_ | refine g_exitHere ?_)
      clear hge he
      have houtr : ∀ x ∈ intsL (liveN X.blocks X.regs.toNat (b, (B.list.length : Int) + 1)), ∃ r : Nat, x = r ∧ r < X.regs.toNat ∧ LiveS X.blocks r b ((B.list.length : Int) + 1) := fun x hx => by
        obtain ⟨r, rfl⟩ := intsL_nat hx
        exact ⟨r, rfl, mem_intsL.1 hx⟩
      have hol2 := (intsL_bd (bl := X.blocks) (s := (b, (B.list.length : Int) + 1)) hR).1
      generalize intsL (liveN X.blocks X.regs.toNat (b, (B.list.length : Int) + 1)) = our at *
      obtain ⟨ub, uo, hune, huold, huel⟩ : ∃ vb vo : Nat, (our ≠ [] → AddrIs ua vb vo) ∧ (our ≠ [] → OldIs SS vb) ∧ ∀ (i : Nat) (x : Int), our[i]? = some x → CellsIs wk vb (vo + i * 1) [.int .i64 x] := by
        by_cases hne : our = []
        · exact ⟨0, 0, fun h => absurd hne h, fun h => absurd hne h, fun i x hx => by rw [hne] at hx; cases hx⟩
        · obtain ⟨vb, vo, h1, h2, h3⟩ := slOf' hrowu hold (fun _ _ h => ⟨_, [], h.1⟩) hne
          exact ⟨vb, vo, fun _ => h1, fun _ => h2, fun i x hx => by
            obtain ⟨cs, h4, rfl, _⟩ := h3 i x hx
            exact h4⟩
      refine g_eqH (H1 := ([Ent.box p14 [.int .i64 0, .int .i64 0] 29, Ent.box p8 [.int .i64 0, .int .i64 0] 29, Ent.box p6 [.int .i64 0, .int .i64 0] 29, Ent.box p2 [.slice ga gn gc, .slice fa fn fc] 25, Ent.vec (some ⟨tb, tz, none⟩) (B.list.length + 1) tc 35 1 (rs.map valR)] ++ rs.map entR)) rfl ?_
      refine g_loop (fun (e : Nat) => e ≤ our.length) (fun e => [(16, .int .i64 e), (13, .slice (some ⟨tb, tz, none⟩) (B.list.length + 1) tc), (9, .int .i64 b), (7, .slice sa bn sc), (5, .slice ra bn rc), (2, .pointer (some ⟨p2, 0, none⟩)), (1, .int .i64 i)]) (fun _ => ([Ent.box p14 [.int .i64 0, .int .i64 0] 29, Ent.box p8 [.int .i64 0, .int .i64 0] 29, Ent.box p6 [.int .i64 0, .int .i64 0] 29, Ent.box p2 [.slice ga gn gc, .slice fa fn fc] 25, Ent.vec (some ⟨tb, tz, none⟩) (B.list.length + 1) tc 35 1 (rs.map valR)] ++ rs.map entR)) (fun e => our.length - e) 0 (Nat.zero_le _) (g_done (by repeat (first | exact trivial | refine ⟨rfl, ?_⟩)) (List.Sublist.refl _)) fun e he => ?_
      simp only [List.cons_append, List.nil_append]
      repeat (first | refine g_op rfl ?_ | refine g_then ?_ | refine g_nil ?_ | refine g_region ?_ | refine g_seq ?_)
      refine g_cond (fun h3 => ?_) (fun h3 => ?_)
      · have hel : e < our.length := by simpa using h3
        have hle : LtIs e our.length := ⟨hel⟩
        have hirne : our ≠ [] := List.length_pos_iff.1 (by omega)
        have hune := hune hirne
        have huold := huold hirne
        obtain ⟨y, hy⟩ : ∃ y, our[e]? = some y := ⟨_, List.getElem?_eq_getElem hel⟩
        obtain ⟨r, rfl, hrR, hrl⟩ := houtr y (List.mem_of_getElem? hy)
        have hcy := huel e _ hy
        repeat (first | refine g_then ?_ | refine g_seq ?_ | refine g_block ?_ | refine g_skip ?_)
        refine g_draw mixed (by kernel_rfl) ?_
        repeat (first | refine q_op rfl ?_ | refine q_sub rfl (by omega) (by omega) ?_)
        try rw [show (((B.list.length + 1 : Nat) : Int) - 1) = (B.list.length : Int) by omega]
        repeat (refine q_op rfl ?_)
        refine q_call rfl (fun w hw => has_c _ r1.l r w (row_sl (E := [Ent.box p14 [.int .i64 0, .int .i64 0] 29, Ent.box p8 [.int .i64 0, .int .i64 0] 29, Ent.box p6 [.int .i64 0, .int .i64 0] 29, Ent.box p2 [.slice ga gn gc, .slice fa fn fc] 25, Ent.vec (some ⟨tb, tz, none⟩) (B.list.length + 1) tc 35 1 (rs.map valR)]) (H := []) (by rw [List.append_nil]; exact hw) hr1 (by rw [hr1l]; exact intsL_bd hR))) ?_
        rw [hr1l, decide_eq_true (mem_intsL.2 ⟨hrR, liveS_out hB hrl⟩)]
        repeat (first | refine q_op rfl ?_ | refine q_nil ?_)
        repeat (first | refine g_op rfl ?_ | refine g_then ?_ | refine g_nil ?_ | refine g_region ?_ | refine g_opS rfl ?_ | refine g_inBlock ?_ | refine g_skip ?_ | refine g_condF ?_ | refine g_add rfl (by omega) (by omega) ?_)
        exact g_next (e + 1) hel (by omega) (by repeat (first | exact trivial | refine ⟨rfl, ?_⟩)) (List.Sublist.refl _)
      have hge : e = our.length := by have := h3; simp at this; omega
      repeat (first | refine g_op rfl ?_ | refine g_then ?_ | refine g_nil ?_ | refine g_region ?_ | refine g_opS rfl ?_ | refine g_inBlock ?_ | refine g_add rfl (by omega) (by omega) ?_ | refine g_exit ?_ | refine g_thenExit ?_ | refine g_exitHere ?_)
      exact g_next (b + 1) hlt (by omega) (by repeat (first | exact trivial | refine ⟨rfl, ?_⟩)) (List.Sublist.cons _ (List.sublist_append_left [Ent.box p8 [.int .i64 0, .int .i64 0] 29, Ent.box p6 [.int .i64 0, .int .i64 0] 29, Ent.box p2 [.slice ga gn gc, .slice fa fn fc] 25] _))
  · have hge : b = bn := by have := h1; simp at this; omega
    repeat (first | refine g_op rfl ?_ | refine g_then ?_ | refine g_nil ?_ | refine g_region ?_ | refine g_seq ?_ | refine g_exit ?_ | refine g_thenExit ?_ | refine g_exitHere ?_ | refine g_ret ?_)
    exact g_ret1 rfl fun w hw => ⟨rfl, (back hw).chg⟩
end Go.Proofs.YtoahickmkkcneaaDoor
