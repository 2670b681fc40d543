/- Texts joined: Nest. -/
import Derived.Test.YtoahickmkkcneaaDoorGO
/- The law LoopsNest, walked: loops lie within one another or apart. -/
namespace Go.Proofs.YtoahickmkkcneaaDoor
open Go Go.RowKit
attribute [local irreducible] wpListIn Code.wpIn Exit.then Exit.inBlock bodyPost wpQuiet wpAnyIn wpAnyH bodyPostM
set_option maxHeartbeats 8000000

/-- how many of the first of a row stand in another -/
def bothTo (r s : List Int) (j : Nat) : Nat := ((r.take j).filter fun x => decide (x ∈ s)).length
theorem bothTo_succ {r s : List Int} {j : Nat} {x : Int} (hx : r[j]? = some x) : bothTo r s (j + 1) = bothTo r s j + if decide (x ∈ s) then 1 else 0 := by
  unfold bothTo
  rw [List.take_add_one, hx, List.filter_append, List.length_append]
  congr 1
  by_cases h : x ∈ s <;> simp [h]
theorem bothTo_le (r s : List Int) (j : Nat) : bothTo r s j ≤ r.length := by
  unfold bothTo
  have h1 := List.length_filter_le (fun x => decide (x ∈ s)) (r.take j)
  rw [List.length_take] at h1
  omega
theorem nest_both {bl : List LBlock} (a b : Nat) : bothTo (loopRow bl a) (loopRow bl b) (loopRow bl a).length = 0 ∨ bothTo (loopRow bl a) (loopRow bl b) (loopRow bl a).length = (loopRow bl a).length ∨ bothTo (loopRow bl a) (loopRow bl b) (loopRow bl a).length = (loopRow bl b).length := by
  classical
  have hsub : ∀ c d, (∀ y, InLoop bl c y → InLoop bl d y) → ∀ y, y ∈ loopRow bl c → y ∈ loopRow bl d := fun c d h y hy => by
    have hy0 := hy
    unfold loopRow at hy0
    obtain ⟨z, hz, rfl⟩ := List.mem_map.1 hy0
    rw [loopRow_mem] at hy ⊢
    exact ⟨hy.1, h _ hy.2⟩
  unfold bothTo
  rw [List.take_length]
  by_cases hz : (loopRow bl a).filter (fun x => decide (x ∈ loopRow bl b)) = []
  · exact .inl (by rw [hz]; rfl)
  · obtain ⟨y, hy⟩ := List.exists_mem_of_ne_nil _ hz
    have hy1 := List.mem_filter.1 hy
    have hya := hy1.1
    have hyb : y ∈ loopRow bl b := by simpa using hy1.2
    have hy2 := hya
    unfold loopRow at hy2
    obtain ⟨z, hz, rfl⟩ := List.mem_map.1 hy2
    have hall : (∀ y, InLoop bl a y → InLoop bl b y) → ((loopRow bl a).filter fun x => decide (x ∈ loopRow bl b)).length = (loopRow bl a).length := fun h => by
      rw [List.filter_eq_self.2 fun x hx => by simpa using hsub a b h x hx]
    by_cases hne : a = b
    · exact .inr (.inl (hall fun y h => hne ▸ h))
    rcases loops_nest hne (loopRow_mem.1 hya).2 (loopRow_mem.1 hyb).2 with h | h
    · refine .inr (.inr (List.Perm.length_eq ?_))
      refine (List.perm_ext_iff_of_nodup ((loopRow_nodup bl a).filter _) (loopRow_nodup bl b)).2 fun x => ?_
      rw [List.mem_filter]
      constructor
      · rintro ⟨_, h2⟩; simpa using h2
      · intro h2; exact ⟨hsub b a h x h2, by simpa using h2⟩
    · exact .inr (.inl (hall h))
theorem loopRow_lt {bl : List LBlock} {a : Nat} {x : Int} (hx : x ∈ loopRow bl a) : ∃ c : Nat, x = c ∧ c < bl.length ∧ Dom bl a c := by
  classical
  have hx0 := hx
  unfold loopRow at hx0
  obtain ⟨z, hz, rfl⟩ := List.mem_map.1 hx0
  exact ⟨z, rfl, (loopRow_mem.1 hx).1, (loopRow_mem.1 hx).2.dom⟩
theorem tabOf {w : World} {S : Nat → Prop} {a : Option Addr} {n c : Nat} {T : List (List Int)} (h : SlAt w (.slice a n c) 1 T RowV) (hold : ∀ {b o : Nat} {v : Value} {l : List Value}, CellsAt w b o (v :: l) → OldIs S b) (h0 : T ≠ []) :
    ∃ b o : Nat, AddrIs a b o ∧ OldIs S b ∧ ∀ i l, T[i]? = some l → ∃ (ra : Option Addr) (rc : Nat), CellsIs w b (o + i * 1) [.slice ra l.length rc] ∧ SlAt w (.slice ra l.length rc) 1 l IntV := by
  obtain ⟨_, _, _, b, o, ha, hel⟩ := h.at
  refine ⟨b, o, ⟨ha h0⟩, ?_, fun i l hi => ?_⟩
  · obtain ⟨l, hl⟩ : ∃ l, T[0]? = some l := ⟨_, List.getElem?_eq_getElem (List.length_pos_iff.2 h0)⟩
    obtain ⟨_, hc, v, rfl, _⟩ := hel 0 l hl
    exact hold hc
  · obtain ⟨_, hc, v, rfl, hv⟩ := hel i l hi
    have hv0 := hv
    obtain ⟨ra, rn, rc, _, _, rfl, hrn, _⟩ := hv0
    subst hrn
    exact ⟨ra, rc, ⟨hc⟩, hv⟩
theorem nestLaw_c (u : LUnit) (k : Int) (hk : inI k) (g fs : Value) (w0 : World) (hg : SlAt w0 g 3 u.globals GlobalV) (hf : SlAt w0 fs 4 u.funcs FuncV) (hways : CellsAt w0 0 0 waysC) :
    RetV Tryd.prog 16 [.agg #[g, fs], .int .i64 k] w0 (.bool true) := by
  classical
  have hg0 := hg
  have hf0 := hf
  obtain ⟨ga, gn, gc, gb, go, rfl, _⟩ := hg
  obtain ⟨fa, fn, fc, fb, fo, rfl, hfn, hfnc, hfnb, hfc, hfa, hfel⟩ := hf
  refine ret_enter Tryd.func16 rfl Tryd.ntmps16 rfl (Wd.nil NoS w0) ?_
  repeat (first | refine g_op rfl ?_ | refine g_then ?_ | refine g_nil ?_ | refine g_region ?_ | refine g_seq ?_ | refine g_box rfl fun _ _ => ?_)
  rename_i p2 _
  refine g_callE (val := fun b : Bool => .bool b) (E := fun _ => []) (φ := fun b => b = false → light u) rfl (fun w hw => heavy_c u _ _ w (hf0.keep keeps_func hw.chg) ⟨_, _, _, rfl⟩) fun b hb => ?_
  simp only [List.nil_append]
  cases b
  case true =>
    repeat (first | refine g_then ?_ | refine g_nil ?_ | refine g_region ?_ | refine g_seq ?_ | refine g_opS rfl ?_ | refine g_condT ?_ | refine g_ret ?_ | refine g_thenRet ?_)
    exact g_retV rfl rfl
  have hl := hb rfl
  repeat (first | refine g_op rfl ?_ | refine g_then ?_ | refine g_nil ?_ | refine g_region ?_ | refine g_seq ?_ | refine g_skip ?_ | refine g_condF ?_)
  by_cases hbad : (askedL u k).1 ≠ 0
  · refine g_callV rfl (fun w hw => of_bad u hl k hk hbad _ _ w (hg0.keep keeps_global hw.chg) (hf0.keep keeps_func hw.chg) (hways.keep hw.chg)) ?_
    repeat (first | refine g_op rfl ?_ | refine g_then ?_ | refine g_nil ?_ | refine g_region ?_ | refine g_seq ?_ | refine g_alloc rfl fun _ _ => ?_ | refine g_storeAgg ?_)
    refine g_callV rfl (fun w hw => table_bad u hl k hk hbad _ _ w (hg0.keep keeps_global hw.chg) (hf0.keep keeps_func hw.chg) (hways.keep hw.chg)) ?_
    repeat (first | refine g_op rfl ?_ | refine g_then ?_ | refine g_nil ?_ | refine g_region ?_ | refine g_seq ?_ | refine g_alloc rfl fun _ _ => ?_ | refine g_storeAgg ?_)
    refine g_cond (fun h1 => ?_) (fun h1 => ?_)
    · repeat (first | refine g_op rfl ?_ | refine g_region ?_ | refine g_seq ?_)
      rw [show (decide ((askedL u k).1 = (askedL u k).1) && decide ((askedL u k).2 = (askedL u k).2)) = true by simp]
      repeat (first | refine g_op rfl ?_ | refine g_then ?_ | refine g_nil ?_ | refine g_opS rfl ?_ | refine g_open ?_ | refine g_ret ?_ | refine g_thenRet ?_)
      exact g_retV rfl rfl
    · exact absurd h1 (by simp [hbad])
  have hgood : (askedL u k).1 = 0 := by simpa using hbad
  obtain ⟨hch, has, i, X, rfl, hX, hok⟩ := asked_ok hgood
  have hpos := check_pos hch hX
  have hil : i < fn := by rw [hfn]; exact (List.getElem?_eq_some_iff.1 hX).1
  have had : AddrIs fa fb fo := ⟨hfa (ne_of_get hX)⟩
  have hli : LtIs i fn := ⟨hil⟩
  obtain ⟨cs, hcs, bv, rfl, hpi, hri, hbv⟩ := hfel i X hX
  have hci : CellsIs w0 fb (fo + i * 4) _ := ⟨hcs⟩
  have hbv0 := hbv
  obtain ⟨ba, bn, bc, _, _, rfl, hbn, _⟩ := hbv
  have h24 := (hl.2 X (List.mem_of_getElem? hX)).1
  refine g_callK (s := 1) (l := loopsL X.blocks) (V := RowV) (mk := fun v => .tuple #[v, .agg #[.int .i64 0, .int .i64 0]]) rfl (fun w hw => of_ok u hl i hgood X hX hok hpos hch _ _ w (hg0.keep keeps_global hw.chg) (hf0.keep keeps_func hw.chg) (hways.keep hw.chg)) fun ra rc rp => ?_
  repeat (first | refine g_op rfl ?_ | refine g_then ?_ | refine g_nil ?_ | refine g_region ?_ | refine g_seq ?_ | refine g_alloc rfl fun _ _ => ?_ | refine g_storeAgg ?_)
  rename_i p6 _
  refine g_callK (s := 1) (l := domL X.blocks) (V := RowV) (mk := fun v => .tuple #[v, .agg #[.int .i64 0, .int .i64 0]]) rfl (fun w hw => table_ok u hl i hgood X hX hok hpos hch _ _ w (hg0.keep keeps_global hw.chg) (hf0.keep keeps_func hw.chg) (hways.keep hw.chg)) fun sa sc sp => ?_
  rw [domL_len, loopsL_len, ← hbn]
  repeat (first | refine g_op rfl ?_ | refine g_then ?_ | refine g_nil ?_ | refine g_region ?_ | refine g_seq ?_ | refine g_open ?_ | refine g_alloc rfl fun _ _ => ?_ | refine g_storeAgg ?_ | refine g_skip ?_ | refine g_condF ?_)
  rename_i p8 _
  rw [show (!decide ((0 : Int) = 0)) = false by simp, show decide ((i : Int) < 0) = false by simp]
  repeat (first | refine g_op rfl ?_ | refine g_open ?_)
  rw [show decide ((fn : Int) ≤ (i : Int)) = false by simp; omega]
  repeat (first | refine g_op rfl ?_ | refine g_open ?_)
  rw [show (!decide ((bn : Int) = (bn : Int))) = false by simp]
  repeat (first | refine g_op rfl ?_ | refine g_then ?_ | refine g_nil ?_ | refine g_open ?_)
  rw [show (!decide ((bn : Int) = (bn : Int))) = false by simp]
  repeat (first | refine g_op rfl ?_ | refine g_then ?_ | refine g_nil ?_ | refine g_region ?_ | refine g_seq ?_ | refine g_block ?_ | refine g_skip ?_ | refine g_condF ?_)
  refine g_sel [0, 2, 3, 1] (by decide) ?_
  refine g_eqH (H1 := [Ent.box p8 [.int .i64 0, .int .i64 0] 29, Ent.box p6 [.int .i64 0, .int .i64 0] 29] ++ [(⟨rp, fun w => SlAt w (.slice ra bn rc) 1 (loopsL X.blocks) RowV⟩ : Ent), (⟨sp, fun w => SlAt w (.slice sa bn sc) 1 (domL X.blocks) RowV⟩ : Ent)]) rfl ?_
  refine g_holdK fun w1 hw1 => ?_
  have hlk : SlAt (killW (fps [Ent.box p8 [.int .i64 0, .int .i64 0] 29, Ent.box p6 [.int .i64 0, .int .i64 0] 29]) w1) (.slice ra bn rc) 1 (loopsL X.blocks) RowV := hw1.beside (e := (⟨rp, fun w => SlAt w (.slice ra bn rc) 1 (loopsL X.blocks) RowV⟩ : Ent)) (by simp)
  have hdk : SlAt (killW (fps [Ent.box p8 [.int .i64 0, .int .i64 0] 29, Ent.box p6 [.int .i64 0, .int .i64 0] 29]) w1) (.slice sa bn sc) 1 (domL X.blocks) RowV := hw1.beside (e := (⟨sp, fun w => SlAt w (.slice sa bn sc) 1 (domL X.blocks) RowV⟩ : Ent)) (by simp)
  have back : ∀ {E : List Ent} {w : World}, Wd (fps [Ent.box p8 [.int .i64 0, .int .i64 0] 29, Ent.box p6 [.int .i64 0, .int .i64 0] 29]) (killW (fps [Ent.box p8 [.int .i64 0, .int .i64 0] 29, Ent.box p6 [.int .i64 0, .int .i64 0] 29]) w1) E w → Wd NoS w0 (E ++ [(⟨rp, fun w => SlAt w (.slice ra bn rc) 1 (loopsL X.blocks) RowV⟩ : Ent), (⟨sp, fun w => SlAt w (.slice sa bn sc) 1 (domL X.blocks) RowV⟩ : Ent)]) w := fun hw => hw1.comp hw.unkill
  have hkp : ∀ {E : List Ent} {w : World}, Wd (fps [Ent.box p8 [.int .i64 0, .int .i64 0] 29, Ent.box p6 [.int .i64 0, .int .i64 0] 29]) (killW (fps [Ent.box p8 [.int .i64 0, .int .i64 0] 29, Ent.box p6 [.int .i64 0, .int .i64 0] 29]) w1) E w → ∀ p v, (killW (fps [Ent.box p8 [.int .i64 0, .int .i64 0] 29, Ent.box p6 [.int .i64 0, .int .i64 0] 29]) w1).cell? p = some v → w.cell? p = some v := fun hw => hw.killKeep
  have hold : ∀ {b o : Nat} {v : Value} {l : List Value}, CellsAt (killW (fps [Ent.box p8 [.int .i64 0, .int .i64 0] 29, Ent.box p6 [.int .i64 0, .int .i64 0] 29]) w1) b o (v :: l) → OldIs (fps [Ent.box p8 [.int .i64 0, .int .i64 0] 29, Ent.box p6 [.int .i64 0, .int .i64 0] 29]) b := fun hc => killOldIs hc (by simp)
  generalize killW (fps [Ent.box p8 [.int .i64 0, .int .i64 0] 29, Ent.box p6 [.int .i64 0, .int .i64 0] 29]) w1 = wk at *
  generalize fps [Ent.box p8 [.int .i64 0, .int .i64 0] 29, Ent.box p6 [.int .i64 0, .int .i64 0] 29] = SS at *
  have hne : loopsL X.blocks ≠ [] := fun e => by have := congrArg List.length e; rw [loopsL_len, List.length_nil] at this; omega
  obtain ⟨kb, ko, hadk, holk, htab⟩ := tabOf hlk hold hne
  refine g_loop (fun (a : Nat) => a ≤ bn) (fun a => [(9, .int .i64 a), (7, .slice sa bn sc), (5, .slice ra bn rc)]) (fun _ => [Ent.box p8 [.int .i64 0, .int .i64 0] 29, Ent.box p6 [.int .i64 0, .int .i64 0] 29]) (fun a => bn - a) 0 (Nat.zero_le _) (g_done (by repeat (first | exact trivial | refine ⟨rfl, ?_⟩)) (List.Sublist.refl _)) fun a ha => ?_
  repeat (first | refine g_op rfl ?_ | refine g_then ?_ | refine g_nil ?_ | refine g_region ?_ | refine g_seq ?_)
  refine g_cond (fun h1 => ?_) (fun h1 => ?_)
  · have han : a < bn := by simpa using h1
    have hla : LtIs a bn := ⟨han⟩
    obtain ⟨va, vc, hcia, hrowa⟩ := htab a _ (loopsL_get (by omega))
    have hra := nodup_lenI (loopRow_nodup X.blocks a) fun x hx => (loopRow_lt hx).imp fun c h => ⟨h.1, h.2.1⟩
    repeat (first | refine g_op rfl ?_ | refine g_then ?_ | refine g_nil ?_ | refine g_region ?_ | refine g_seq ?_ | refine g_block ?_ | refine g_skip ?_)
    refine g_loop (fun (b : Nat) => b ≤ bn) (fun b => [(10, .int .i64 b), (9, .int .i64 a), (7, .slice sa bn sc), (5, .slice ra bn rc)]) (fun _ => [Ent.box p8 [.int .i64 0, .int .i64 0] 29, Ent.box p6 [.int .i64 0, .int .i64 0] 29]) (fun b => bn - b) 0 (Nat.zero_le _) (g_done (by repeat (first | exact trivial | refine ⟨rfl, ?_⟩)) (List.Sublist.refl _)) fun b hb => ?_
    repeat (first | refine g_op rfl ?_ | refine g_then ?_ | refine g_nil ?_ | refine g_region ?_ | refine g_seq ?_)
    refine g_cond (fun h2 => ?_) (fun h2 => ?_)
    · have hbn2 : b < bn := by simpa using h2
      have hlb : LtIs b bn := ⟨hbn2⟩
      obtain ⟨vb, vd, hcib, hrowb⟩ := htab b _ (loopsL_get (by omega))
      repeat (first | refine g_op rfl ?_ | refine g_then ?_ | refine g_nil ?_ | refine g_region ?_ | refine g_seq ?_ | refine g_block ?_ | refine g_skip ?_)
      refine g_loop (fun (j : Nat) => j ≤ (loopRow X.blocks a).length) (fun j => [(12, .int .i64 j), (11, .int .i64 (bothTo (loopRow X.blocks a) (loopRow X.blocks b) j : Nat)), (10, .int .i64 b), (9, .int .i64 a), (7, .slice sa bn sc), (5, .slice ra bn rc)]) (fun _ => [Ent.box p8 [.int .i64 0, .int .i64 0] 29, Ent.box p6 [.int .i64 0, .int .i64 0] 29]) (fun j => (loopRow X.blocks a).length - j) 0 (Nat.zero_le _) (g_done (by repeat (first | exact trivial | refine ⟨rfl, ?_⟩)) (List.Sublist.refl _)) fun j hj => ?_
      repeat (first | refine g_op rfl ?_ | refine g_then ?_ | refine g_nil ?_ | refine g_region ?_ | refine g_seq ?_)
      refine g_cond (fun h3 => ?_) (fun h3 => ?_)
      · have hjl : j < (loopRow X.blocks a).length := by simpa using h3
        have hlj : LtIs j (loopRow X.blocks a).length := ⟨hjl⟩
        obtain ⟨z, hz⟩ : ∃ z, (loopRow X.blocks a)[j]? = some z := ⟨_, List.getElem?_eq_getElem hjl⟩
        obtain ⟨x, rfl, hxn, hxd⟩ := loopRow_lt (List.mem_of_getElem? hz)
        obtain ⟨rb, ro, hadr, hcir, holr⟩ := rowKnown hrowa hold hz
        have hds := bothTo_succ (s := loopRow X.blocks b) hz
        have hle := bothTo_le (loopRow X.blocks a) (loopRow X.blocks b) j
        repeat (first | refine g_then ?_ | refine g_seq ?_ | refine g_block ?_ | refine g_skip ?_)
        refine g_drawH [Ent.box p8 [.int .i64 0, .int .i64 0] 29, Ent.box p6 [.int .i64 0, .int .i64 0] 29] mixed (List.Sublist.refl _) ?_
        refine h_take 0 rfl (by decide +kernel) (List.Sublist.refl _) ?_
        refine h_take 1 rfl (by decide +kernel) (List.Sublist.refl _) ?_
        refine h_take 2 rfl (by decide +kernel) (List.Sublist.refl _) ?_
        refine h_take 3 rfl (by decide +kernel) (List.Sublist.refl _) ?_
        refine h_take 4 rfl (by decide +kernel) (List.Sublist.refl _) ?_
        refine h_take 5 rfl (by decide +kernel) (List.Sublist.refl _) ?_
        refine h_take 6 rfl (by decide +kernel) (List.Sublist.refl _) ?_
        refine h_take 7 rfl (by decide +kernel) (List.Sublist.refl _) ?_
        refine h_take 8 rfl (by decide +kernel) (List.Sublist.refl _) ?_
        refine h_take 9 rfl (by decide +kernel) (List.Sublist.refl _) ?_
        refine h_take 10 rfl (by decide +kernel) (List.Sublist.refl _) ?_
        refine h_callV 11 rfl (by decide +kernel) (List.Sublist.refl _) (fun w hw => has_c _ (loopRow X.blocks b) x w (SlAt.mono (V := IntV) (w := wk) (w' := w) (fun _ _ h => h) (hkp hw) hrowb)) ?_
        refine h_end (by decide +kernel) ?_
        generalize decide ((x : Int) ∈ loopRow X.blocks b) = d at hds ⊢
        cases d
        · simp only [Bool.false_eq_true, if_false, Nat.add_zero] at hds
          repeat (first | refine g_op rfl ?_ | refine g_then ?_ | refine g_nil ?_ | refine g_region ?_ | refine g_opS rfl ?_ | refine g_inBlock ?_ | refine g_skip ?_ | refine g_condF ?_ | refine g_add rfl (by omega) (by omega) ?_)
          refine g_fix (L' := [(12, .int .i64 ((j : Int) + 1)), (11, .int .i64 (bothTo (loopRow X.blocks a) (loopRow X.blocks b) (j + 1) : Nat)), (10, .int .i64 b), (9, .int .i64 a), (7, .slice sa bn sc), (5, .slice ra bn rc)]) (by rw [hds]; exact (by repeat (first | exact trivial | refine ⟨rfl, ?_⟩))) (List.Sublist.refl _) ?_
          exact g_next (j + 1) hjl (by omega) (by repeat (first | exact trivial | refine ⟨rfl, ?_⟩)) (List.Sublist.refl _)
        · simp only [if_true] at hds
          repeat (first | refine g_op rfl ?_ | refine g_then ?_ | refine g_nil ?_ | refine g_region ?_ | refine g_opS rfl ?_ | refine g_inBlock ?_ | refine g_condT ?_ | refine g_add rfl (by omega) (by omega) ?_)
          refine g_fix (L' := [(12, .int .i64 ((j : Int) + 1)), (11, .int .i64 (bothTo (loopRow X.blocks a) (loopRow X.blocks b) (j + 1) : Nat)), (10, .int .i64 b), (9, .int .i64 a), (7, .slice sa bn sc), (5, .slice ra bn rc)]) (by rw [hds]; exact (by repeat (first | exact trivial | refine ⟨rfl, ?_⟩))) (List.Sublist.refl _) ?_
          exact g_next (j + 1) hjl (by omega) (by repeat (first | exact trivial | refine ⟨rfl, ?_⟩)) (List.Sublist.refl _)
      · have hge : j = (loopRow X.blocks a).length := by have := h3; simp at this; omega
        have hbo := nest_both (bl := X.blocks) a b
        rw [hge]
        generalize hcnt : bothTo (loopRow X.blocks a) (loopRow X.blocks b) (loopRow X.blocks a).length = cnt at *
        repeat (first | refine g_op rfl ?_ | refine g_then ?_ | refine g_region ?_ | refine g_seq ?_ | refine g_exit ?_ | refine g_thenExit ?_ | refine g_exitHere ?_)
        have fin : ∀ {c : Bool}, c = false → True := fun _ => trivial
        by_cases c0 : cnt = 0
        · rw [show decide ((0 : Int) < (cnt : Int)) = false by simp; omega]
          repeat (first | refine g_op rfl ?_ | refine g_then ?_ | refine g_nil ?_ | refine g_region ?_ | refine g_opS rfl ?_ | refine g_pass rfl ?_ | refine g_inBlock ?_ | refine g_skip ?_ | refine g_condF ?_ | refine g_add rfl (by omega) (by omega) ?_)
          exact g_next (b + 1) hbn2 (by omega) (by repeat (first | exact trivial | refine ⟨rfl, ?_⟩)) (List.Sublist.refl _)
        rw [show decide ((0 : Int) < (cnt : Int)) = true by simp; omega]
        repeat (first | refine g_op rfl ?_ | refine g_open ?_)
        by_cases c1 : cnt < (loopRow X.blocks a).length
        · rw [show decide ((cnt : Int) < ((loopRow X.blocks a).length : Int)) = true by simp; omega]
          repeat (first | refine g_op rfl ?_ | refine g_then ?_ | refine g_nil ?_ | refine g_open ?_)
          rw [show decide ((cnt : Int) < ((loopRow X.blocks b).length : Int)) = false by simp; omega]
          repeat (first | refine g_op rfl ?_ | refine g_then ?_ | refine g_nil ?_ | refine g_region ?_ | refine g_opS rfl ?_ | refine g_inBlock ?_ | refine g_skip ?_ | refine g_condF ?_ | refine g_add rfl (by omega) (by omega) ?_)
          exact g_next (b + 1) hbn2 (by omega) (by repeat (first | exact trivial | refine ⟨rfl, ?_⟩)) (List.Sublist.refl _)
        · rw [show decide ((cnt : Int) < ((loopRow X.blocks a).length : Int)) = false by simp; omega]
          repeat (first | refine g_op rfl ?_ | refine g_then ?_ | refine g_nil ?_ | refine g_region ?_ | refine g_opS rfl ?_ | refine g_pass rfl ?_ | refine g_inBlock ?_ | refine g_skip ?_ | refine g_condF ?_ | refine g_add rfl (by omega) (by omega) ?_)
          exact g_next (b + 1) hbn2 (by omega) (by repeat (first | exact trivial | refine ⟨rfl, ?_⟩)) (List.Sublist.refl _)
    · have hge : b = bn := by have := h2; simp at this; omega
      repeat (first | refine g_op rfl ?_ | refine g_then ?_ | refine g_nil ?_ | refine g_region ?_ | refine g_seq ?_ | refine g_block ?_ | refine g_exit ?_ | refine g_thenExit ?_ | refine g_exitHere ?_)
      refine g_loop (fun (j : Nat) => j ≤ (loopRow X.blocks a).length) (fun j => [(13, .int .i64 j), (9, .int .i64 a), (7, .slice sa bn sc), (5, .slice ra bn rc)]) (fun _ => [Ent.box p8 [.int .i64 0, .int .i64 0] 29, Ent.box p6 [.int .i64 0, .int .i64 0] 29]) (fun j => (loopRow X.blocks a).length - j) 0 (Nat.zero_le _) (g_done (by repeat (first | exact trivial | refine ⟨rfl, ?_⟩)) (List.Sublist.refl _)) fun j hj => ?_
      repeat (first | refine g_op rfl ?_ | refine g_then ?_ | refine g_nil ?_ | refine g_region ?_ | refine g_seq ?_)
      refine g_cond (fun h3 => ?_) (fun h3 => ?_)
      · have hjl : j < (loopRow X.blocks a).length := by simpa using h3
        have hlj : LtIs j (loopRow X.blocks a).length := ⟨hjl⟩
        obtain ⟨z, hz⟩ : ∃ z, (loopRow X.blocks a)[j]? = some z := ⟨_, List.getElem?_eq_getElem hjl⟩
        obtain ⟨x, rfl, hxn, hxd⟩ := loopRow_lt (List.mem_of_getElem? hz)
        obtain ⟨rb, ro, hadr, hcir, holr⟩ := rowKnown hrowa hold hz
        obtain ⟨db, d0, dv, dc, hadd, hcid, hold2, hrowd⟩ := tabKnown hdk hold (domL_get (by omega : x < X.blocks.length))
        have hlx : LtIs x bn := ⟨by omega⟩
        repeat (first | refine g_op rfl ?_ | refine g_then ?_ | refine g_region ?_ | refine g_seq ?_ | refine g_open ?_ | refine g_block ?_ | refine g_skip ?_)
        rw [show decide ((x : Int) < 0) = false by simp]
        repeat (refine g_op rfl ?_)
        rw [show decide ((bn : Int) ≤ (x : Int)) = false by simp; omega]
        repeat (first | refine g_op rfl ?_ | refine g_open ?_)
        refine g_callV rfl (fun w hw => has_c _ _ a w (SlAt.mono (V := IntV) (w := wk) (w' := w) (fun _ _ h => h) (hkp hw) hrowd)) ?_
        rw [show decide ((a : Int) ∈ (domTo X.blocks x X.blocks.length).map fun x : Nat => (x : Int)) = true by
          rw [decide_eq_true_eq, mem_ints, domTo_mem]
          exact ⟨by omega, hxd⟩]
        repeat (first | refine g_op rfl ?_ | refine g_then ?_ | refine g_nil ?_ | refine g_region ?_ | refine g_opS rfl ?_ | refine g_open ?_ | refine g_inBlock ?_ | refine g_skip ?_ | refine g_condF ?_ | refine g_add rfl (by omega) (by omega) ?_)
        exact g_next (j + 1) hjl (by omega) (by repeat (first | exact trivial | refine ⟨rfl, ?_⟩)) (List.Sublist.refl _)
      · have hge : j = (loopRow X.blocks a).length := by have := h3; simp at this; omega
        repeat (first | refine g_op rfl ?_ | refine g_then ?_ | refine g_nil ?_ | refine g_region ?_ | refine g_opS rfl ?_ | refine g_inBlock ?_ | refine g_add rfl (by omega) (by omega) ?_ | refine g_exit ?_ | refine g_thenExit ?_ | refine g_exitHere ?_)
        exact g_next (a + 1) han (by omega) (by repeat (first | exact trivial | refine ⟨rfl, ?_⟩)) (List.Sublist.refl _)
  · repeat (first | refine g_op rfl ?_ | refine g_then ?_ | refine g_nil ?_ | refine g_region ?_ | refine g_seq ?_ | refine g_exit ?_ | refine g_thenExit ?_ | refine g_exitHere ?_ | refine g_ret ?_)
    exact g_ret1 rfl fun w hw => ⟨rfl, (back hw).chg⟩
end Go.Proofs.YtoahickmkkcneaaDoor
