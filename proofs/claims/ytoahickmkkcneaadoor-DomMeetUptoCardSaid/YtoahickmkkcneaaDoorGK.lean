/- Texts joined: DomD DomE. -/
import Derived.Test.YtoahickmkkcneaaDoorGF
import Derived.Test.YtoahickmkkcneaaDoorGG
/- turneryref3.Tree, dom.Tree: what they return; the law DomTrees, walked. -/
namespace Go.Proofs.YtoahickmkkcneaaDoor
open Go Go.RowKit
attribute [local irreducible] wpListIn Code.wpIn Exit.then Exit.inBlock bodyPost wpQuiet wpAnyIn wpAnyH
set_option maxHeartbeats 4000000

end Go.Proofs.YtoahickmkkcneaaDoor

/- dom.Tree: what it returns; the law DomTrees, walked. -/
namespace Go.Proofs.YtoahickmkkcneaaDoor
open Go Go.RowKit
attribute [local irreducible] wpListIn Code.wpIn Exit.then Exit.inBlock bodyPost wpQuiet wpAnyIn wpAnyH
set_option maxHeartbeats 4000000

noncomputable def treeL (bl : List LBlock) : List Int := (List.range bl.length).map (treeN bl)
theorem treeN_cases (bl : List LBlock) (b : Nat) : treeN bl b = -1 ∨ ∃ c : Nat, treeN bl b = c ∧ IDom bl c b := by
  by_cases h : ∃ c, IDom bl c b
  · obtain ⟨c, hc⟩ := h
    exact .inr ⟨c, treeN_eq hc, hc⟩
  · exact .inl (treeN_none fun c hc => h ⟨c, hc⟩)
theorem treeL_in {bl : List LBlock} (hok : GoodB bl) (hpos : 0 < bl.length) (hlen : bl.length ≤ 100) : ∀ x ∈ treeL bl, inI x := by
  intro x hx
  obtain ⟨b, _, rfl⟩ := List.mem_map.1 hx
  rcases treeN_cases bl b with h | ⟨c, h, hc⟩
  · rw [h]; simp [inI]
  · rw [h]
    have := hok.rch hpos hc.1.1
    simp only [inI]; omega
theorem tree_bad (u : LUnit) (hl : light u) (k : Int) (hk : inI k) (hbad : (askedL u k).1 ≠ 0) (g fs : Value) (w0 : World) (hg : SlAt w0 g 3 u.globals GlobalV) (hf : SlAt w0 fs 4 u.funcs FuncV) (hways : CellsAt w0 0 0 waysC) :
    RetV Tryd.prog 39 [.agg #[g, fs], .int .i64 k] w0 (.tuple #[.slice none 0 0, .agg #[.int .i64 (askedL u k).1, .int .i64 (askedL u k).2]]) := by
  have hg0 := hg
  have hf0 := hf
  obtain ⟨ga, gn, gc, gb, go, rfl, _⟩ := hg
  obtain ⟨fa, fn, fc, fb, fo, rfl, _⟩ := hf
  refine ret_enter Tryd.func39 rfl Tryd.ntmps39 rfl (Wd.nil NoS w0) ?_
  repeat (first | refine g_op rfl ?_ | refine g_then ?_ | refine g_nil ?_ | refine g_region ?_ | refine g_seq ?_ | refine g_box rfl fun _ _ => ?_ | refine g_alloc rfl fun _ _ => ?_)
  rename_i p2 _ p5 _
  refine g_callV rfl (fun w hw => func_bad u hl k hk hbad _ _ w (hg0.keep keeps_global hw.chg) (hf0.keep keeps_func hw.chg) (hways.keep hw.chg)) ?_
  unfold zeroFn
  repeat (first | refine g_op rfl ?_ | refine g_then ?_ | refine g_nil ?_ | refine g_region ?_ | refine g_seq ?_ | refine g_alloc rfl fun _ _ => ?_ | refine g_storeAgg ?_)
  rename_i p6 _ p7 _
  refine g_cond (fun h1 => ?_) (fun h1 => ?_)
  · repeat (refine g_seq ?_)
    refine g_drawW [(4, .slice none 0 0), (5, .pointer (some ⟨p5, 0, none⟩))] [Ent.box p5 [.int .i64 (askedL u k).1, .int .i64 (askedL u k).2] 29] mixed ?_ ?_
    · repeat' (first | refine g_any0 (by decide +kernel) ?_ | refine g_any (by decide +kernel) ?_ | refine any_nil | refine any_skip (by decide +kernel) ?_ | refine any_cons ?_ ?_ | refine g_op rfl ?_ | refine g_then ?_ | refine g_nil ?_ | refine g_opS rfl ?_ | refine g_storeAgg ?_)
      all_goals exact g_done (by repeat (first | exact trivial | refine ⟨rfl, ?_⟩)) (by simp)
    · repeat (first | refine g_then ?_ | refine g_ret ?_ | refine g_thenRet ?_)
      exact g_retTC rfl fun _ hw => ⟨rfl, hw.chg⟩
  · exact absurd h1 (by simp [hbad])
theorem tree_ok (u : LUnit) (hl : light u) (k : Nat) (hgood : (askedL u k).1 = 0) (X : LFunc) (hX : u.funcs[k]? = some X) (hok : GoodB X.blocks) (hpos : 0 < X.blocks.length) (hch : (checkL u).1 = 0) (g fs : Value) (w0 : World) (hg : SlAt w0 g 3 u.globals GlobalV) (hf : SlAt w0 fs 4 u.funcs FuncV) (hways : CellsAt w0 0 0 waysC) :
    Ret Tryd.prog 39 [.agg #[g, fs], .int .i64 k] w0 fun v w' => ∃ x : Option Addr × Nat, v = .tuple #[.slice x.1 X.blocks.length x.2, .agg #[.int .i64 0, .int .i64 0]] ∧ Wd NoS w0 [Ent.vec x.1 X.blocks.length x.2 3 1 ((treeL X.blocks).map (.int .i64))] w' ∧ True := by
  classical
  have hg0 := hg
  have hf0 := hf
  obtain ⟨ga, gn, gc, gb, go, rfl, _⟩ := hg
  obtain ⟨fa, fn, fc, fb, fo, rfl, _⟩ := hf
  have hlx := hl.2 X (List.mem_of_getElem? hX)
  have h24 := hlx.1
  obtain ⟨bv, hbv, hfc⟩ := func_ok u hl k hgood _ _ X hX w0 hg0 hf0 hways
  have hbv0 := hbv
  obtain ⟨ba, n, bc, bb, bo', rfl, hn, hnc, hnb, hbc, hba, hel⟩ := hbv
  obtain ⟨R, hXR, hR, hFO⟩ := check_func hch hX
  refine ret_enter Tryd.func39 rfl Tryd.ntmps39 rfl (Wd.nil NoS w0) ?_
  repeat (first | refine g_op rfl ?_ | refine g_then ?_ | refine g_nil ?_ | refine g_region ?_ | refine g_seq ?_ | refine g_box rfl fun _ _ => ?_ | refine g_alloc rfl fun _ _ => ?_)
  rename_i p2 _ p5 _
  refine g_callV rfl (fun w hw => hfc w hw.chg) ?_
  repeat (first | refine g_op rfl ?_ | refine g_then ?_ | refine g_nil ?_ | refine g_region ?_ | refine g_seq ?_ | refine g_alloc rfl fun _ _ => ?_ | refine g_storeAgg ?_ | refine g_skip ?_ | refine g_condF ?_)
  rename_i p6 _ p7 _
  refine g_drawE (fun z : Option Addr × Nat => [(4, .slice z.1 X.blocks.length z.2), (5, .pointer (some ⟨p5, 0, none⟩))]) (fun z => [Ent.vec z.1 X.blocks.length z.2 3 1 ((treeL X.blocks).map (.int .i64)), Ent.box p5 [.int .i64 0, .int .i64 0] 29]) mixed ?_ fun z => ?_
  · repeat' (first | refine g_any (by decide +kernel) ?_ | refine any_nil | refine any_skip (by decide +kernel) ?_ | refine any_cons ?_ ?_ | refine g_op rfl ?_ | refine g_then ?_ | refine g_nil ?_)
    all_goals
      refine g_callE (val := fun x : Option Addr × Nat => .slice x.1 X.blocks.length x.2) (E := fun x => [Ent.vec x.1 X.blocks.length x.2 3 1 ((treeL X.blocks).map (.int .i64))]) (φ := fun _ => True) rfl (fun w hw => (treeOf_c _ _ _ X.blocks _ ⟨_, _, _, rfl⟩ w (hbv0.keep keeps_block hw.chg) (by omega) hok (fun b B hB => (hFO.block b B hB).to) hpos).mono fun v w' ⟨a, h1, h2, _⟩ => ⟨(some ⟨a, 0, none⟩, X.blocks.length), h1, h2, trivial⟩) fun x _ => ?_
      obtain ⟨xa, xc⟩ := x
      simp only [List.cons_append, List.nil_append]
      repeat' (first | refine g_any0 (by decide +kernel) ?_ | refine g_any (by decide +kernel) ?_ | refine any_nil | refine any_skip (by decide +kernel) ?_ | refine any_cons ?_ ?_ | refine g_op rfl ?_ | refine g_then ?_ | refine g_nil ?_ | refine g_opS rfl ?_ | refine g_storeAgg ?_)
      all_goals exact g_doneE (xa, xc) (by repeat (first | exact trivial | refine ⟨rfl, ?_⟩)) (by simp)
  · repeat (first | refine g_then ?_ | refine g_ret ?_)
    exact g_retTC rfl fun w hw => ⟨z, rfl, hw.sel [0] (by decide), trivial⟩

end Go.Proofs.YtoahickmkkcneaaDoor
