/- Texts joined: ChainL. -/
import Derived.Test.YtoahickmkkcneaaDoorGL
import Derived.Test.YtoahickmkkcneaaDoorGN
import Derived.Test.YtoahickmkkcneaaDoorGP
import Derived.Test.YtoahickmkkcneaaDoorGR
/- The law DomChain, walked: who rules a block is the chain up its tree, each ruled by one another. -/
namespace Go.Proofs.YtoahickmkkcneaaDoor
open Go Go.RowKit
attribute [local irreducible] wpListIn Code.wpIn Exit.then Exit.inBlock bodyPost wpQuiet wpAnyIn wpAnyH bodyPostM
set_option maxHeartbeats 8000000

theorem treeL_len (bl : List LBlock) : (treeL bl).length = bl.length := by simp [treeL]
theorem treeL_get {bl : List LBlock} {b : Nat} (h : b < bl.length) : (treeL bl)[b]? = some (treeN bl b) := by unfold treeL; rw [List.getElem?_map, List.getElem?_range h]; rfl
/-- who rules a block, as a row -/
noncomputable def domRow (bl : List LBlock) (b : Nat) : List Int := (domTo bl b bl.length).map fun x : Nat => (x : Int)
theorem domRow_mem {bl : List LBlock} (hok : GoodB bl) (h0 : 0 < bl.length) {b c : Nat} : (c : Int) ∈ domRow bl b ↔ Dom bl c b := by
  unfold domRow
  rw [mem_ints, domTo_mem]
  exact ⟨fun h => h.2, fun h => ⟨hok.rch h0 h.1, h⟩⟩
theorem domRow_get {bl : List LBlock} {b i : Nat} {y : Int} (h : (domRow bl b)[i]? = some y) : ∃ c : Nat, y = (c : Int) ∧ c < bl.length ∧ Dom bl c b := by
  have hm := List.mem_of_getElem? h
  unfold domRow at hm
  obtain ⟨c, hc, rfl⟩ := List.mem_map.1 hm
  exact ⟨c, rfl, domTo_mem.1 hc⟩
theorem domRow_none {bl : List LBlock} {b : Nat} (h : ¬ Rch bl (-1) 0 b) : domRow bl b = [] := by
  unfold domRow
  rw [List.map_eq_nil_iff]
  exact List.eq_nil_iff_forall_not_mem.2 fun c hc => h (domTo_mem.1 hc).2.2.1
theorem domRow_some {bl : List LBlock} (hok : GoodB bl) (h0 : 0 < bl.length) {b : Nat} (h : Rch bl (-1) 0 b) : 0 < (domRow bl b).length :=
  List.length_pos_iff.2 (List.ne_nil_of_mem ((domRow_mem hok h0).2 (.refl h)))
theorem domRow_le (bl : List LBlock) (b : Nat) : (domRow bl b).length ≤ bl.length := by
  unfold domRow domTo
  have := List.length_filter_le (fun c => (open Classical in decide (Dom bl c b))) (List.range bl.length)
  rw [List.length_range] at this
  rwa [List.length_map]
theorem sortL_chain {bl : List LBlock} (hok : GoodB bl) (h0 : 0 < bl.length) {b : Nat} {l : List Int} (h : ChainUp bl b (-1) l) : (sortL l bl.length).map (fun x : Nat => (x : Int)) = domRow bl b := by
  classical
  unfold sortL domRow domTo
  congr 1
  refine List.filter_congr fun c _ => ?_
  rw [decide_eq_decide, h.mem]
  constructor
  · rintro ⟨d, e, h1, _⟩
    rwa [show c = d by omega]
  · intro h1
    exact ⟨c, rfl, h1, fun ⟨d, hd, _⟩ => by omega⟩
theorem treeK (u : LUnit) (hl : light u) (k : Nat) (hgood : (askedL u k).1 = 0) (X : LFunc) (hX : u.funcs[k]? = some X) (hok : GoodB X.blocks) (hpos : 0 < X.blocks.length) (hch : (checkL u).1 = 0) (g fs : Value) (w0 : World) (hg : SlAt w0 g 3 u.globals GlobalV) (hf : SlAt w0 fs 4 u.funcs FuncV) (hways : CellsAt w0 0 0 waysC) :
    RetK Tryd.prog 39 [.agg #[g, fs], .int .i64 k] w0 1 (treeL X.blocks) IntV fun v => .tuple #[v, .agg #[.int .i64 0, .int .i64 0]] :=
  retK_of (tree_ok u hl k hgood X hX hok hpos hch g fs w0 hg hf hways) fun x _ => ⟨x.1, x.2, by rw [treeL_len], fun w2 hw => by
    have h24 := (hl.2 X (List.mem_of_getElem? hX)).1
    rw [treeL_len]
    exact hw.slAt (k := 0) rfl (treeL_len _).symm (by omega) fun i x hx => by
      refine ⟨[.int .i64 x], fun j v hj => ?_, rfl, treeL_in hok hpos (by omega) x (List.mem_of_getElem? hx)⟩
      match j, hj with
      | 0, hj => simpa [hx] using hj⟩
theorem chainLaw_c (u : LUnit) (k : Int) (hk : inI k) (g fs : Value) (w0 : World) (hg : SlAt w0 g 3 u.globals GlobalV) (hf : SlAt w0 fs 4 u.funcs FuncV) (hways : CellsAt w0 0 0 waysC) :
    RetV Tryd.prog 8 [.agg #[g, fs], .int .i64 k] w0 (.bool true) := by
  classical
  have hg0 := hg
  have hf0 := hf
  obtain ⟨ga, gn, gc, gb, go, rfl, _⟩ := hg
  obtain ⟨fa, fn, fc, fb, fo, rfl, hfn, hfnc, hfnb, hfc, hfa, hfel⟩ := hf
  refine ret_enter Tryd.func8 rfl Tryd.ntmps8 rfl (Wd.nil NoS w0) ?_
  repeat (first | refine g_op rfl ?_ | refine g_then ?_ | refine g_nil ?_ | refine g_region ?_ | refine g_seq ?_ | refine g_box rfl fun _ _ => ?_)
  rename_i p2 _
  refine g_callE (val := fun b : Bool => .bool b) (E := fun _ => []) (φ := fun b => b = false → light u) rfl (fun w hw => heavy_c u _ _ w (hf0.keep keeps_func hw.chg) ⟨_, _, _, rfl⟩) fun b hb => ?_
  simp only [List.nil_append]
  cases b
  case true =>
    repeat (first | refine g_then ?_ | refine g_nil ?_ | refine g_region ?_ | refine g_seq ?_ | refine g_opS rfl ?_ | refine g_condT ?_ | refine g_ret ?_ | refine g_thenRet ?_)
    exact g_retV rfl rfl
  have hl := hb rfl
  repeat (first | refine g_op rfl ?_ | refine g_then ?_ | refine g_nil ?_ | refine g_region ?_ | refine g_seq ?_ | refine g_skip ?_ | refine g_condF ?_)
  by_cases hbad : (askedL u k).1 ≠ 0
  · refine g_callV rfl (fun w hw => table_bad u hl k hk hbad _ _ w (hg0.keep keeps_global hw.chg) (hf0.keep keeps_func hw.chg) (hways.keep hw.chg)) ?_
    repeat (first | refine g_op rfl ?_ | refine g_then ?_ | refine g_nil ?_ | refine g_region ?_ | refine g_seq ?_ | refine g_alloc rfl fun _ _ => ?_ | refine g_storeAgg ?_)
    refine g_callV rfl (fun w hw => tree_bad u hl k hk hbad _ _ w (hg0.keep keeps_global hw.chg) (hf0.keep keeps_func hw.chg) (hways.keep hw.chg)) ?_
    repeat (first | refine g_op rfl ?_ | refine g_then ?_ | refine g_nil ?_ | refine g_region ?_ | refine g_seq ?_ | refine g_alloc rfl fun _ _ => ?_ | refine g_storeAgg ?_)
    refine g_cond (fun h1 => ?_) (fun h1 => ?_)
    · repeat (first | refine g_op rfl ?_ | refine g_region ?_ | refine g_seq ?_)
      rw [show (decide ((askedL u k).1 = (askedL u k).1) && decide ((askedL u k).2 = (askedL u k).2)) = true by simp]
      repeat (first | refine g_op rfl ?_ | refine g_open ?_)
      rw [show decide (((0 : Nat) : Int) = 0) = true from rfl]
      repeat (first | refine g_op rfl ?_ | refine g_then ?_ | refine g_nil ?_ | refine g_opS rfl ?_ | refine g_ret ?_ | refine g_thenRet ?_)
      exact g_retV rfl rfl
    · exact absurd h1 (by simp [hbad])
  have hgood : (askedL u k).1 = 0 := by simpa using hbad
  obtain ⟨hch, has, i, X, rfl, hX, hok⟩ := asked_ok hgood
  have hpos := check_pos hch hX
  have hil : i < fn := by rw [hfn]; exact (List.getElem?_eq_some_iff.1 hX).1
  have had : AddrIs fa fb fo := ⟨hfa (ne_of_get hX)⟩
  have hli : LtIs i fn := ⟨hil⟩
  obtain ⟨cs, hcs, bv, rfl, hpi, hri, hbv⟩ := hfel i X hX
  have hci : CellsIs w0 fb (fo + i * 4) _ := ⟨hcs⟩
  have hbv0 := hbv
  obtain ⟨ba, bn, bc, _, _, rfl, hbn, _⟩ := hbv
  have h24 := (hl.2 X (List.mem_of_getElem? hX)).1
  refine g_callK (s := 1) (l := domL X.blocks) (V := RowV) (mk := fun v => .tuple #[v, .agg #[.int .i64 0, .int .i64 0]]) rfl (fun w hw => table_ok u hl i hgood X hX hok hpos hch _ _ w (hg0.keep keeps_global hw.chg) (hf0.keep keeps_func hw.chg) (hways.keep hw.chg)) fun ra rc rp => ?_
  repeat (first | refine g_op rfl ?_ | refine g_then ?_ | refine g_nil ?_ | refine g_region ?_ | refine g_seq ?_ | refine g_alloc rfl fun _ _ => ?_ | refine g_storeAgg ?_)
  rename_i p6 _
  refine g_callK (s := 1) (l := treeL X.blocks) (V := IntV) (mk := fun v => .tuple #[v, .agg #[.int .i64 0, .int .i64 0]]) rfl (fun w hw => treeK u hl i hgood X hX hok hpos hch _ _ w (hg0.keep keeps_global hw.chg) (hf0.keep keeps_func hw.chg) (hways.keep hw.chg)) fun sa sc sp => ?_
  rw [treeL_len, domL_len, ← hbn]
  repeat (first | refine g_op rfl ?_ | refine g_then ?_ | refine g_nil ?_ | refine g_region ?_ | refine g_seq ?_ | refine g_open ?_ | refine g_alloc rfl fun _ _ => ?_ | refine g_storeAgg ?_ | refine g_skip ?_ | refine g_condF ?_)
  rename_i p8 _
  refine g_sel [0, 2, 4, 1, 3] (by decide) ?_
  refine g_eqH (H1 := [Ent.box p8 [.int .i64 0, .int .i64 0] 29, Ent.box p6 [.int .i64 0, .int .i64 0] 29, Ent.box p2 [.slice ga gn gc, .slice fa fn fc] 25] ++ [(⟨sp, fun w => SlAt w (.slice sa bn sc) 1 (treeL X.blocks) IntV⟩ : Ent), (⟨rp, fun w => SlAt w (.slice ra bn rc) 1 (domL X.blocks) RowV⟩ : Ent)]) rfl ?_
  refine g_holdK fun w1 hw1 => ?_
  have hrk : SlAt (killW (fps [Ent.box p8 [.int .i64 0, .int .i64 0] 29, Ent.box p6 [.int .i64 0, .int .i64 0] 29, Ent.box p2 [.slice ga gn gc, .slice fa fn fc] 25]) w1) (.slice ra bn rc) 1 (domL X.blocks) RowV := hw1.beside (e := (⟨rp, fun w => SlAt w (.slice ra bn rc) 1 (domL X.blocks) RowV⟩ : Ent)) (by simp)
  have hsk : SlAt (killW (fps [Ent.box p8 [.int .i64 0, .int .i64 0] 29, Ent.box p6 [.int .i64 0, .int .i64 0] 29, Ent.box p2 [.slice ga gn gc, .slice fa fn fc] 25]) w1) (.slice sa bn sc) 1 (treeL X.blocks) IntV := hw1.beside (e := (⟨sp, fun w => SlAt w (.slice sa bn sc) 1 (treeL X.blocks) IntV⟩ : Ent)) (by simp)
  have back : ∀ {E : List Ent} {w : World}, Wd (fps [Ent.box p8 [.int .i64 0, .int .i64 0] 29, Ent.box p6 [.int .i64 0, .int .i64 0] 29, Ent.box p2 [.slice ga gn gc, .slice fa fn fc] 25]) (killW (fps [Ent.box p8 [.int .i64 0, .int .i64 0] 29, Ent.box p6 [.int .i64 0, .int .i64 0] 29, Ent.box p2 [.slice ga gn gc, .slice fa fn fc] 25]) w1) E w → Wd NoS w0 (E ++ [(⟨sp, fun w => SlAt w (.slice sa bn sc) 1 (treeL X.blocks) IntV⟩ : Ent), (⟨rp, fun w => SlAt w (.slice ra bn rc) 1 (domL X.blocks) RowV⟩ : Ent)]) w := fun hw => hw1.comp hw.unkill
  have hkp : ∀ {E : List Ent} {w : World}, Wd (fps [Ent.box p8 [.int .i64 0, .int .i64 0] 29, Ent.box p6 [.int .i64 0, .int .i64 0] 29, Ent.box p2 [.slice ga gn gc, .slice fa fn fc] 25]) (killW (fps [Ent.box p8 [.int .i64 0, .int .i64 0] 29, Ent.box p6 [.int .i64 0, .int .i64 0] 29, Ent.box p2 [.slice ga gn gc, .slice fa fn fc] 25]) w1) E w → ∀ p v, (killW (fps [Ent.box p8 [.int .i64 0, .int .i64 0] 29, Ent.box p6 [.int .i64 0, .int .i64 0] 29, Ent.box p2 [.slice ga gn gc, .slice fa fn fc] 25]) w1).cell? p = some v → w.cell? p = some v := fun hw => hw.killKeep
  have hold : ∀ {b o : Nat} {v : Value} {l : List Value}, CellsAt (killW (fps [Ent.box p8 [.int .i64 0, .int .i64 0] 29, Ent.box p6 [.int .i64 0, .int .i64 0] 29, Ent.box p2 [.slice ga gn gc, .slice fa fn fc] 25]) w1) b o (v :: l) → OldIs (fps [Ent.box p8 [.int .i64 0, .int .i64 0] 29, Ent.box p6 [.int .i64 0, .int .i64 0] 29, Ent.box p2 [.slice ga gn gc, .slice fa fn fc] 25]) b := fun hc => killOldIs hc (by simp)
  have hcw := hcs.keep hw1.killOld
  generalize killW (fps [Ent.box p8 [.int .i64 0, .int .i64 0] 29, Ent.box p6 [.int .i64 0, .int .i64 0] 29, Ent.box p2 [.slice ga gn gc, .slice fa fn fc] 25]) w1 = wk at *
  generalize fps [Ent.box p8 [.int .i64 0, .int .i64 0] 29, Ent.box p6 [.int .i64 0, .int .i64 0] 29, Ent.box p2 [.slice ga gn gc, .slice fa fn fc] 25] = SS at *
  have hciw : CellsIs wk fb (fo + i * 4) _ := ⟨hcw⟩
  have holf : OldIs SS fb := hold hcw
  obtain ⟨sb, so, hads, hols, hsel⟩ := slOf hsk hold (fun _ _ h => ⟨_, [], h.1⟩) (by intro e; have := treeL_len X.blocks; rw [e] at this; simp at this; omega)
  obtain ⟨kb, ko, hadk, holk, htab⟩ := tabOf hrk hold (by intro e; have := domL_len X.blocks; rw [e] at this; simp at this; omega)
  have hdg : ∀ b, b < bn → (domL X.blocks)[b]? = some (domRow X.blocks b) := fun b hb => domL_get (by omega)
  rw [show (!decide ((0 : Int) = 0)) = false by simp]
  repeat (first | refine g_op rfl ?_ | refine g_open ?_)
  rw [show decide ((i : Int) < 0) = false by simp]
  repeat (refine g_op rfl ?_)
  rw [show decide ((fn : Int) ≤ (i : Int)) = false by simp; omega]
  repeat (first | refine g_op rfl ?_ | refine g_open ?_)
  rw [show (!decide ((bn : Int) = (bn : Int))) = false by simp]
  repeat (first | refine g_op rfl ?_ | refine g_then ?_ | refine g_nil ?_ | refine g_open ?_)
  rw [show (!decide ((bn : Int) = (bn : Int))) = false by simp]
  repeat (first | refine g_op rfl ?_ | refine g_then ?_ | refine g_nil ?_ | refine g_region ?_ | refine g_seq ?_ | refine g_block ?_ | refine g_skip ?_ | refine g_condF ?_)
  refine g_loop (fun (b : Nat) => b ≤ bn) (fun b => [(9, .int .i64 b), (7, .slice sa bn sc), (5, .slice ra bn rc)]) (fun _ => [Ent.box p8 [.int .i64 0, .int .i64 0] 29, Ent.box p6 [.int .i64 0, .int .i64 0] 29, Ent.box p2 [.slice ga gn gc, .slice fa fn fc] 25]) (fun b => bn - b) 0 (Nat.zero_le _) (g_done (by repeat (first | exact trivial | refine ⟨rfl, ?_⟩)) (List.Sublist.refl _)) fun b hb => ?_
  repeat (first | refine g_op rfl ?_ | refine g_then ?_ | refine g_nil ?_ | refine g_region ?_ | refine g_seq ?_)
  refine g_cond (fun h1 => ?_) (fun h1 => ?_)
  · have hlt : b < bn := by simpa using h1
    have hlb : LtIs b bn := ⟨hlt⟩
    obtain ⟨va, vc, hcib, hrowb⟩ := htab b _ (hdg b hlt)
    have hrle := domRow_le X.blocks b
    have hrsome := fun h => domRow_some hok hpos (b := b) h
    have hrnone := fun h => domRow_none (bl := X.blocks) (b := b) h
    repeat (first | refine g_op rfl ?_ | refine g_then ?_ | refine g_nil ?_ | refine g_region ?_ | refine g_seq ?_ | refine g_block ?_ | refine g_skip ?_)
    refine g_nilVec 3 1 ?_
    refine g_loop (fun (x : Int × List Int × Option Addr × Nat) => x.2.1.length ≤ bn ∧ ((¬ Rch X.blocks (-1) 0 b ∧ x.1 = b ∧ x.2.1 = []) ∨ (Rch X.blocks (-1) 0 b ∧ ((x.1 < 0 ∧ x.1 = -1) ∨ ∃ c : Nat, x.1 = c ∧ Dom X.blocks c b) ∧ ChainUp X.blocks b x.1 x.2.1)))
      (fun x => [(12, .int .i64 x.2.1.length), (11, .int .i64 x.1), (10, .slice x.2.2.1 x.2.1.length x.2.2.2), (9, .int .i64 b), (7, .slice sa bn sc), (5, .slice ra bn rc)])
      (fun x => Ent.vec x.2.2.1 x.2.1.length x.2.2.2 3 1 (x.2.1.map (.int .i64)) :: [Ent.box p8 [.int .i64 0, .int .i64 0] 29, Ent.box p6 [.int .i64 0, .int .i64 0] 29, Ent.box p2 [.slice ga gn gc, .slice fa fn fc] 25]) (fun x => bn - x.2.1.length) ((b : Int), [], none, 0) ⟨Nat.zero_le _, by
        by_cases hr : Rch X.blocks (-1) 0 b
        · exact .inr ⟨hr, .inr ⟨b, rfl, .refl hr⟩, chain_start⟩
        · exact .inl ⟨hr, rfl, rfl⟩⟩ (g_done (by repeat (first | exact trivial | refine ⟨rfl, ?_⟩)) (List.Sublist.refl _)) fun x ⟨hll, hinv⟩ => ?_
    obtain ⟨z, l, la, lc⟩ := x
    simp only at hll hinv ⊢
    repeat (first | refine g_op rfl ?_ | refine g_region ?_ | refine g_seq ?_)
    rw [show decide ((l.length : Int) ≤ (bn : Int)) = true by simp; omega]
    repeat (first | refine g_op rfl ?_ | refine g_open ?_)
    by_cases hgo : Rch X.blocks (-1) 0 b ∧ ∃ a : Nat, z = a ∧ Dom X.blocks a b
    · obtain ⟨hr, a, rfl, had⟩ := hgo
      have han : a < bn := by have := hok.rch hpos had.1; omega
      have hla : LtIs a bn := ⟨han⟩
      have hch1 : ChainUp X.blocks b a l := by rcases hinv with h | h; exact absurd hr h.1; exact h.2.2
      obtain ⟨cst, hct, rfl, _⟩ := hsel a _ (treeL_get (by omega))
      have hcst := chain_step hok hpos had hch1
      have hcl := hcst.len
      rw [List.length_append, List.length_singleton] at hcl
      have htd := treeN_dom hok hpos (b := a) had
      rw [show decide ((0 : Int) < ((domRow X.blocks b).length : Int)) = true by have := hrsome hr; simp; omega]
      repeat (first | refine g_op rfl ?_ | refine g_open ?_)
      rw [show decide ((0 : Int) ≤ (a : Int)) = true by simp]
      repeat (first | refine g_op rfl ?_ | refine g_then ?_ | refine g_nil ?_)
      rw [show decide ((a : Int) < (bn : Int)) = true by simp; omega]
      repeat (first | refine g_op rfl ?_ | refine g_then ?_ | refine g_region ?_ | refine g_seq ?_ | refine g_block ?_ | refine g_skip ?_ | refine g_condT ?_ | refine g_build1 rfl rfl fun _ _ => ?_)
      rename_i bt _
      refine g_append rfl rfl (by omega) (by omega) fun a1 c1 => ?_
      refine g_eqH (H1 := Ent.vec (some ⟨bt, 0, none⟩) 1 1 3 1 [.int .i64 a] :: Ent.vec a1 (l ++ [(a : Int)]).length c1 3 1 ((l ++ [(a : Int)]).map (.int .i64)) :: [Ent.box p8 [.int .i64 0, .int .i64 0] 29, Ent.box p6 [.int .i64 0, .int .i64 0] 29, Ent.box p2 [.slice ga gn gc, .slice fa fn fc] 25]) (by simp) ?_
      repeat (first | refine g_op rfl ?_ | refine g_then ?_ | refine g_nil ?_ | refine g_region ?_ | refine g_opS rfl ?_ | refine g_inBlock ?_ | refine g_add rfl (by omega) (by omega) ?_)
      have hl1 : (l ++ [(a : Int)]).length = l.length + 1 := by simp
      refine g_fix (L' := [(12, .int .i64 ((l ++ [(a : Int)]).length : Nat)), (11, .int .i64 (treeN X.blocks a)), (10, .slice a1 (l ++ [(a : Int)]).length c1), (9, .int .i64 b), (7, .slice sa bn sc), (5, .slice ra bn rc)]) (by rw [hl1]; exact (by repeat (first | exact trivial | refine ⟨rfl, ?_⟩))) (List.Sublist.refl _) ?_
      exact g_next (treeN X.blocks a, l ++ [(a : Int)], a1, c1) ⟨by simp only [hl1]; omega, .inr ⟨hr, htd, hcst⟩⟩ (by simp only [hl1]; omega) (by repeat (first | exact trivial | refine ⟨rfl, ?_⟩)) (List.Sublist.cons _ (List.Sublist.refl _))
    have hend : (¬ Rch X.blocks (-1) 0 b ∧ l = []) ∨ (Rch X.blocks (-1) 0 b ∧ z = -1 ∧ ChainUp X.blocks b (-1) l) := by
      rcases hinv with h | ⟨h1, h2, h3⟩
      · exact .inl ⟨h.1, h.2.2⟩
      · rcases h2 with ⟨_, rfl⟩ | h2
        · exact .inr ⟨h1, rfl, h3⟩
        · exact absurd ⟨h1, h2⟩ hgo
    have hso : (sortL l bn).map (fun x : Nat => (x : Int)) = domRow X.blocks b := by
      rcases hend with h | h
      · rw [h.2, domRow_none h.1]; simp [sortL]
      · rw [hbn]; exact sortL_chain hok hpos h.2.2
    have hlin : ∀ x ∈ l, inI x := fun x hx => by
      rcases hend with h | h
      · rw [h.2] at hx; cases hx
      · obtain ⟨c, rfl, hc, _⟩ := (h.2.2.mem x).1 hx
        have := hok.rch hpos hc.1
        simp only [inI]; omega
    obtain ⟨q, hq1, hq2⟩ : ∃ q : Bool, decide (((domRow X.blocks b).length : Int) = 0) = q ∧ (q = true → treeN X.blocks b = -1) := by
      by_cases hr : Rch X.blocks (-1) 0 b
      · have := hrsome hr
        exact ⟨false, decide_eq_false (by omega), fun h => by cases h⟩
      · exact ⟨true, by rw [hrnone hr]; rfl, fun _ => treeN_none fun c hc => hr hc.1.2.1⟩
    obtain ⟨cst, hct, rfl, _⟩ := hsel b _ (treeL_get (by omega))
    refine Or.elim hend (fun hr => ?_) (fun hr => ?_)
    rw [show decide ((0 : Int) < ((domRow X.blocks b).length : Int)) = false by rw [hrnone hr.1]; rfl]
    repeat (first | refine g_op rfl ?_ | refine g_then ?_ | refine g_nil ?_ | refine g_seq ?_ | refine g_pass rfl ?_ | refine g_condF ?_ | refine g_exit ?_ | refine g_thenExit ?_ | refine g_exitHere ?_)
    refine g_fix (L' := [(10, .slice la l.length lc), (9, .int .i64 b), (7, .slice sa bn sc), (5, .slice ra bn rc)]) (by repeat (first | exact trivial | refine ⟨rfl, ?_⟩)) (List.Sublist.refl _) ?_
    rotate_left
    obtain ⟨hr1, rfl, hr2⟩ := hr
    rw [show decide ((0 : Int) < ((domRow X.blocks b).length : Int)) = true by have := hrsome hr1; simp; omega]
    repeat (first | refine g_op rfl ?_ | refine g_open ?_ | refine g_pass rfl ?_)
    rw [show decide ((0 : Int) ≤ -1) = false from rfl]
    repeat (first | refine g_op rfl ?_ | refine g_then ?_ | refine g_nil ?_ | refine g_seq ?_ | refine g_condF ?_ | refine g_exit ?_ | refine g_thenExit ?_ | refine g_exitHere ?_)
    refine g_fix (L' := [(10, .slice la l.length lc), (9, .int .i64 b), (7, .slice sa bn sc), (5, .slice ra bn rc)]) (by repeat (first | exact trivial | refine ⟨rfl, ?_⟩)) (List.Sublist.refl _) ?_
    rotate_left
    all_goals
      refine g_drawH (Ent.vec la l.length lc 3 1 (l.map (.int .i64)) :: [Ent.box p8 [.int .i64 0, .int .i64 0] 29, Ent.box p6 [.int .i64 0, .int .i64 0] 29, Ent.box p2 [.slice ga gn gc, .slice fa fn fc] 25]) mixed (List.Sublist.refl _) ?_
      refine h_take 0 rfl (by decide +kernel) (List.Sublist.refl _) ?_
      refine h_take 1 rfl (by decide +kernel) (List.Sublist.refl _) ?_
      refine h_take 2 rfl (by decide +kernel) (List.Sublist.refl _) ?_
      refine h_take 4 rfl (by decide +kernel) (List.Sublist.refl _) ?_
      refine h_take 5 rfl (by decide +kernel) (List.Sublist.refl _) ?_
      refine h_take 6 rfl (by decide +kernel) (List.Sublist.refl _) ?_
      refine h_take 7 rfl (by decide +kernel) (List.Sublist.refl _) ?_
      refine h_callE 3 (val := fun x : Option Addr × Nat => .slice x.1 (sortL l bn).length x.2) (E := fun x => [Ent.vec x.1 (sortL l bn).length x.2 3 1 ((sortL l bn).map intN)]) (φ := fun _ => True) rfl (by decide +kernel) (List.Sublist.refl _) (fun w hw => sorted_c _ ⟨_, _, _, rfl⟩ l bn (by omega) w (hw.slAt (k := 0) rfl rfl (by omega) fun i x hx => ⟨[.int .i64 x], fun j v hj => by
        match j, hj with
        | 0, hj => simpa [hx] using hj, rfl, hlin x (List.mem_of_getElem? hx)⟩)) fun x _ => ?_
      obtain ⟨xa, xc⟩ := x
      simp only [List.cons_append, List.nil_append]
      refine h_callV 8 rfl (by decide +kernel) (List.Sublist.cons _ (List.Sublist.refl _)) (fun w hw => ints_c _ _ ((sortL l bn).map fun x : Nat => (x : Int)) (domRow X.blocks b) w (hw.slAt (k := 0) rfl (by simp) (by have := domRow_le X.blocks b; have h9 := congrArg List.length hso; rw [List.length_map] at h9; omega) fun i x hx => ?_) (SlAt.mono (V := IntV) (w := wk) (w' := w) (fun _ _ h => h) (hkp hw) hrowb)) ?_
      · rw [List.getElem?_map] at hx
        obtain ⟨c, hc, rfl⟩ := Option.map_eq_some_iff.1 hx
        refine ⟨[.int .i64 c], fun j v hj => ?_, rfl, by
          have := (List.mem_filter.1 (List.mem_of_getElem? hc)).1
          rw [List.mem_range] at this
          simp only [inI]; omega⟩
        match j, hj with
        | 0, hj => simpa [hc, intN] using hj
      rw [decide_eq_true hso]
      refine h_take 9 rfl (by decide +kernel) (List.Sublist.cons _ (List.Sublist.refl _)) ?_
      refine h_take 10 rfl (by decide +kernel) (List.Sublist.cons _ (List.Sublist.refl _)) ?_
      refine h_takeG 11 rfl (by decide +kernel) (List.Sublist.cons _ (List.Sublist.refl _)) ?_
      refine h_takeG 12 rfl (by decide +kernel) (List.Sublist.cons _ (List.Sublist.refl _)) ?_
      refine h_takeG 13 rfl (by decide +kernel) (List.Sublist.cons _ (List.Sublist.refl _)) ?_
      refine h_takeG 14 rfl (by decide +kernel) (List.Sublist.cons _ (List.Sublist.refl _)) ?_
      refine h_takeG 15 rfl (by decide +kernel) (List.Sublist.cons _ (List.Sublist.refl _)) ?_
      refine h_takeG 16 rfl (by decide +kernel) (List.Sublist.cons _ (List.Sublist.refl _)) ?_
      rw [hq1]
      refine h_takeG 17 rfl (by decide +kernel) (List.Sublist.cons _ (List.Sublist.refl _)) ?_
      generalize hq3 : q = q' at hq2 ⊢
      clear hq1 hq3
      cases q'
      refine h_takeP 18 rfl (by decide +kernel) (List.Sublist.cons _ (List.Sublist.refl _)) ?_
      refine h_takeP 19 rfl (by decide +kernel) (List.Sublist.cons _ (List.Sublist.refl _)) ?_
      refine h_takeP 20 rfl (by decide +kernel) (List.Sublist.cons _ (List.Sublist.refl _)) ?_
      refine h_takeP 21 rfl (by decide +kernel) (List.Sublist.cons _ (List.Sublist.refl _)) ?_
      refine h_takeP 22 rfl (by decide +kernel) (List.Sublist.cons _ (List.Sublist.refl _)) ?_
      refine h_takeG 23 rfl (by decide +kernel) (List.Sublist.cons _ (List.Sublist.refl _)) ?_
      refine h_take 24 rfl (by decide +kernel) (List.Sublist.cons _ (List.Sublist.refl _)) ?_
      refine h_end (by decide +kernel) ?_
      repeat (first | refine g_op rfl ?_ | refine g_then ?_ | refine g_nil ?_ | refine g_region ?_ | refine g_seq ?_ | refine g_block ?_ | refine g_skip ?_ | refine g_condF ?_)
      rotate_left
      refine h_takeG 18 rfl (by decide +kernel) (List.Sublist.cons _ (List.Sublist.refl _)) ?_
      refine h_takeG 19 rfl (by decide +kernel) (List.Sublist.cons _ (List.Sublist.refl _)) ?_
      refine h_takeG 20 rfl (by decide +kernel) (List.Sublist.cons _ (List.Sublist.refl _)) ?_
      refine h_takeG 21 rfl (by decide +kernel) (List.Sublist.cons _ (List.Sublist.refl _)) ?_
      refine h_takeG 22 rfl (by decide +kernel) (List.Sublist.cons _ (List.Sublist.refl _)) ?_
      rw [show (!decide (treeN X.blocks b = -1)) = false by rw [hq2 rfl]; rfl]
      refine h_takeG 23 rfl (by decide +kernel) (List.Sublist.cons _ (List.Sublist.refl _)) ?_
      refine h_take 24 rfl (by decide +kernel) (List.Sublist.cons _ (List.Sublist.refl _)) ?_
      refine h_end (by decide +kernel) ?_
      repeat (first | refine g_op rfl ?_ | refine g_then ?_ | refine g_nil ?_ | refine g_region ?_ | refine g_seq ?_ | refine g_block ?_ | refine g_skip ?_ | refine g_condF ?_)
      rotate_left
      all_goals
        obtain ⟨vb, vo, hadv, holv, hvel⟩ : ∃ vb vo : Nat, (domRow X.blocks b ≠ [] → AddrIs va vb vo) ∧ (domRow X.blocks b ≠ [] → OldIs SS vb) ∧ ∀ (i : Nat) (x : Int), (domRow X.blocks b)[i]? = some x → CellsIs wk vb (vo + i * 1) [.int .i64 x] := by
          by_cases hne : domRow X.blocks b = []
          · exact ⟨0, 0, fun h => absurd hne h, fun h => absurd hne h, fun i x hx => by rw [hne] at hx; cases hx⟩
          · obtain ⟨vb, vo, h1, h2, h3⟩ := slOf hrowb hold (fun _ _ h => ⟨_, [], h.1⟩) hne
            exact ⟨vb, vo, fun _ => h1, fun _ => h2, fun i x hx => by
              obtain ⟨cs, h4, rfl, _⟩ := h3 i x hx
              exact h4⟩
        refine g_loop (fun (e : Nat) => e ≤ (domRow X.blocks b).length) (fun e => [(13, .int .i64 e), (9, .int .i64 b), (7, .slice sa bn sc), (5, .slice ra bn rc)]) (fun _ => [Ent.box p8 [.int .i64 0, .int .i64 0] 29, Ent.box p6 [.int .i64 0, .int .i64 0] 29, Ent.box p2 [.slice ga gn gc, .slice fa fn fc] 25]) (fun e => (domRow X.blocks b).length - e) 0 (Nat.zero_le _) (g_done (by repeat (first | exact trivial | refine ⟨rfl, ?_⟩)) (List.Sublist.cons _ (List.Sublist.cons _ (List.Sublist.refl _)))) fun e he => ?_
        repeat (first | refine g_op rfl ?_ | refine g_then ?_ | refine g_nil ?_ | refine g_region ?_ | refine g_seq ?_)
        refine g_cond (fun h2 => ?_) (fun h2 => ?_)
        · have hel : e < (domRow X.blocks b).length := by simpa using h2
          have hle : LtIs e (domRow X.blocks b).length := ⟨hel⟩
          have hrne : domRow X.blocks b ≠ [] := List.length_pos_iff.1 (by omega)
          have hadv := hadv hrne
          have holv := holv hrne
          obtain ⟨y1, hy1⟩ : ∃ y, (domRow X.blocks b)[e]? = some y := ⟨_, List.getElem?_eq_getElem hel⟩
          obtain ⟨c1, rfl, hc1n, hc1⟩ := domRow_get hy1
          have hcc1 := hvel e _ hy1
          have hlc1 : LtIs c1 bn := ⟨by omega⟩
          obtain ⟨ua, uc, hciu, hrowu⟩ := htab c1 _ (hdg c1 (by omega))
          repeat (first | refine g_op rfl ?_ | refine g_then ?_ | refine g_nil ?_ | refine g_region ?_ | refine g_seq ?_ | refine g_block ?_ | refine g_skip ?_)
          refine g_loop (fun (d : Nat) => d ≤ (domRow X.blocks b).length) (fun d => [(14, .int .i64 d), (13, .int .i64 e), (9, .int .i64 b), (7, .slice sa bn sc), (5, .slice ra bn rc)]) (fun _ => [Ent.box p8 [.int .i64 0, .int .i64 0] 29, Ent.box p6 [.int .i64 0, .int .i64 0] 29, Ent.box p2 [.slice ga gn gc, .slice fa fn fc] 25]) (fun d => (domRow X.blocks b).length - d) 0 (Nat.zero_le _) (g_done (by repeat (first | exact trivial | refine ⟨rfl, ?_⟩)) (List.Sublist.refl _)) fun d hd => ?_
          repeat (first | refine g_op rfl ?_ | refine g_then ?_ | refine g_nil ?_ | refine g_region ?_ | refine g_seq ?_)
          refine g_cond (fun h3 => ?_) (fun h3 => ?_)
          · have hdl : d < (domRow X.blocks b).length := by simpa using h3
            have hld : LtIs d (domRow X.blocks b).length := ⟨hdl⟩
            obtain ⟨y2, hy2⟩ : ∃ y, (domRow X.blocks b)[d]? = some y := ⟨_, List.getElem?_eq_getElem hdl⟩
            obtain ⟨c2, rfl, hc2n, hc2⟩ := domRow_get hy2
            have hcc2 := hvel d _ hy2
            have hlc2 : LtIs c2 bn := ⟨by omega⟩
            obtain ⟨ta, tc, hcit, hrowt⟩ := htab c2 _ (hdg c2 (by omega))
            repeat (first | refine g_then ?_ | refine g_seq ?_ | refine g_block ?_ | refine g_skip ?_)
            refine g_draw mixed (by kernel_rfl) ?_
            repeat (refine q_op rfl ?_)
            refine q_call rfl (fun w hw => has_c _ (domRow X.blocks c1) c2 w (SlAt.mono (V := IntV) (w := wk) (w' := w) (fun _ _ h => h) (hkp hw) hrowu)) ?_
            by_cases hh : Dom X.blocks c2 c1
            · rw [decide_eq_true ((domRow_mem hok hpos).2 hh)]
              repeat (first | refine q_op rfl ?_ | refine q_pass rfl ?_ | refine q_nil ?_)
              repeat (first | refine g_op rfl ?_ | refine g_then ?_ | refine g_nil ?_ | refine g_region ?_ | refine g_opS rfl ?_ | refine g_inBlock ?_ | refine g_skip ?_ | refine g_condF ?_ | refine g_add rfl (by omega) (by omega) ?_)
              exact g_next (d + 1) hdl (by omega) (by repeat (first | exact trivial | refine ⟨rfl, ?_⟩)) (List.Sublist.refl _)
            · rw [decide_eq_false fun h => hh ((domRow_mem hok hpos).1 h)]
              repeat (first | refine q_op rfl ?_ | refine q_open ?_)
              refine q_call rfl (fun w hw => has_c _ (domRow X.blocks c2) c1 w (SlAt.mono (V := IntV) (w := wk) (w' := w) (fun _ _ h => h) (hkp hw) hrowt)) ?_
              rw [decide_eq_true ((domRow_mem hok hpos).2 ((hc1.chain hc2).resolve_right hh))]
              repeat (first | refine q_op rfl ?_ | refine q_open ?_ | refine q_nil ?_)
              repeat (first | refine g_op rfl ?_ | refine g_then ?_ | refine g_nil ?_ | refine g_region ?_ | refine g_opS rfl ?_ | refine g_inBlock ?_ | refine g_skip ?_ | refine g_condF ?_ | refine g_add rfl (by omega) (by omega) ?_)
              exact g_next (d + 1) hdl (by omega) (by repeat (first | exact trivial | refine ⟨rfl, ?_⟩)) (List.Sublist.refl _)
          · have hge : d = (domRow X.blocks b).length := by have := h3; simp at this; omega
            repeat (first | refine g_op rfl ?_ | refine g_then ?_ | refine g_nil ?_ | refine g_region ?_ | refine g_opS rfl ?_ | refine g_inBlock ?_ | refine g_add rfl (by omega) (by omega) ?_ | refine g_exit ?_ | refine g_thenExit ?_ | refine g_exitHere ?_)
            exact g_next (e + 1) hel (by omega) (by repeat (first | exact trivial | refine ⟨rfl, ?_⟩)) (List.Sublist.refl _)
        · have hge : e = (domRow X.blocks b).length := by have := h2; simp at this; omega
          repeat (first | refine g_op rfl ?_ | refine g_then ?_ | refine g_nil ?_ | refine g_region ?_ | refine g_opS rfl ?_ | refine g_inBlock ?_ | refine g_add rfl (by omega) (by omega) ?_ | refine g_exit ?_ | refine g_thenExit ?_ | refine g_exitHere ?_)
          exact g_next (b + 1) hlt (by omega) (by repeat (first | exact trivial | refine ⟨rfl, ?_⟩)) (List.Sublist.refl _)
  · have hge : b = bn := by have := h1; simp at this; omega
    repeat (first | refine g_op rfl ?_ | refine g_then ?_ | refine g_nil ?_ | refine g_region ?_ | refine g_seq ?_ | refine g_exit ?_ | refine g_thenExit ?_ | refine g_exitHere ?_ | refine g_ret ?_)
    exact g_ret1 rfl fun w hw => ⟨rfl, (back hw).chg⟩
end Go.Proofs.YtoahickmkkcneaaDoor
