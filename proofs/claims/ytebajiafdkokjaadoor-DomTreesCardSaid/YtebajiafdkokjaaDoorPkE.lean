/- Texts joined: HangB HangC HangLaw OrderA PostB OrderB RangeB BackB LiveP LiveQ Vals. -/
import Derived.Laws.Cover3
import Derived.Test.YtebajiafdkokjaaDoorPkD
/- dom.Hang: what it returns. -/
namespace Go.Proofs.YtebajiafdkokjaaDoor
open Go Go.RowKit
attribute [local irreducible] wpListIn Code.wpIn Exit.then Exit.inBlock bodyPost wpQuiet wpAnyIn
set_option maxHeartbeats 4000000

theorem hang_bad (u : LUnit) (hl : light u) (k : Int) (hk : inI k) (hbad : (askedL u k).1 ≠ 0) (g fs : Value) (w0 : World) (hg : SlAt w0 g 3 u.globals GlobalV) (hf : SlAt w0 fs 4 u.funcs FuncV) (hways : CellsAt w0 0 0 waysC) :
    RetV Tryd.prog 24 [.agg #[g, fs], .int .i64 k] w0 (.tuple #[.slice none 0 0, .agg #[.int .i64 (askedL u k).1, .int .i64 (askedL u k).2]]) := by
  have hg0 := hg
  have hf0 := hf
  obtain ⟨ga, gn, gc, gb, go, rfl, _⟩ := hg
  obtain ⟨fa, fn, fc, fb, fo, rfl, _⟩ := hf
  refine ret_enter Tryd.func24 rfl Tryd.ntmps24 rfl (Wd.nil NoS w0) ?_
  repeat (first | refine g_op rfl ?_ | refine g_then ?_ | refine g_nil ?_ | refine g_region ?_ | refine g_seq ?_ | refine g_box rfl fun _ _ => ?_ | refine g_alloc rfl fun _ _ => ?_)
  rename_i p2 _ p5 _
  refine g_callV rfl (fun w hw => func_bad u hl k hk hbad _ _ w (hg0.keep keeps_global hw.chg) (hf0.keep keeps_func hw.chg) (hways.keep hw.chg)) ?_
  unfold zeroFn
  repeat (first | refine g_op rfl ?_ | refine g_then ?_ | refine g_nil ?_ | refine g_region ?_ | refine g_seq ?_ | refine g_alloc rfl fun _ _ => ?_ | refine g_storeAgg ?_)
  rename_i p6 _ p7 _
  refine g_cond (fun h1 => ?_) (fun h1 => ?_)
  · repeat (refine g_seq ?_)
    refine g_drawW [(4, .slice none 0 0), (5, .pointer (some ⟨p5, 0, none⟩))] [Ent.box p5 [.int .i64 (askedL u k).1, .int .i64 (askedL u k).2] 29] mixed ?_ ?_
    · repeat' (first | refine g_any0 (by decide +kernel) ?_ | refine g_any (by decide +kernel) ?_ | refine any_nil | refine any_skip (by decide +kernel) ?_ | refine any_cons ?_ ?_ | refine g_op rfl ?_ | refine g_then ?_ | refine g_nil ?_ | refine g_opS rfl ?_ | refine g_storeAgg ?_)
      all_goals exact g_done (by repeat (first | exact trivial | refine ⟨rfl, ?_⟩)) (by simp)
    · repeat (first | refine g_then ?_ | refine g_ret ?_ | refine g_thenRet ?_)
      exact g_retTC rfl fun _ hw => ⟨rfl, hw.chg⟩
  · exact absurd h1 (by simp [hbad])
theorem hang_ok (u : LUnit) (hl : light u) (k : Nat) (hgood : (askedL u k).1 = 0) (X : LFunc) (hX : u.funcs[k]? = some X) (hok : GoodB X.blocks) (g fs : Value) (w0 : World) (hg : SlAt w0 g 3 u.globals GlobalV) (hf : SlAt w0 fs 4 u.funcs FuncV) (hways : CellsAt w0 0 0 waysC) :
    Ret Tryd.prog 24 [.agg #[g, fs], .int .i64 k] w0 fun v w' => ∃ x : Nat × List Row, v = .tuple #[.slice (some ⟨x.1, 0, none⟩) X.blocks.length X.blocks.length, .agg #[.int .i64 0, .int .i64 0]] ∧ Wd NoS w0 (Ent.vec (some ⟨x.1, 0, none⟩) X.blocks.length X.blocks.length 27 1 (x.2.map valR) :: x.2.map entR) w' ∧ (x.2.map (·.l) = gridL (Hangs X.blocks) X.blocks.length ∧ x.2.length = X.blocks.length) := by
  classical
  have hg0 := hg
  have hf0 := hf
  obtain ⟨ga, gn, gc, gb, go, rfl, _⟩ := hg
  obtain ⟨fa, fn, fc, fb, fo, rfl, _⟩ := hf
  have hlx := hl.2 X (List.mem_of_getElem? hX)
  have h24 := hlx.1
  obtain ⟨bv, hbv, hfc⟩ := func_ok u hl k hgood _ _ X hX w0 hg0 hf0 hways
  have hbv0 := hbv
  obtain ⟨ba, n, bc, bb, bo', rfl, hn, hnc, hnb, hbc, hba, hel⟩ := hbv
  refine ret_enter Tryd.func24 rfl Tryd.ntmps24 rfl (Wd.nil NoS w0) ?_
  repeat (first | refine g_op rfl ?_ | refine g_then ?_ | refine g_nil ?_ | refine g_region ?_ | refine g_seq ?_ | refine g_box rfl fun _ _ => ?_ | refine g_alloc rfl fun _ _ => ?_)
  rename_i p2 _ p5 _
  refine g_callV rfl (fun w hw => hfc w hw.chg) ?_
  repeat (first | refine g_op rfl ?_ | refine g_then ?_ | refine g_nil ?_ | refine g_region ?_ | refine g_seq ?_ | refine g_alloc rfl fun _ _ => ?_ | refine g_storeAgg ?_ | refine g_skip ?_ | refine g_condF ?_)
  rename_i p6 _ p7 _
  refine g_callE (val := fun x : Nat × (Nat → Prop) × List Nat => .slice (some ⟨x.1, 0, none⟩) X.blocks.length X.blocks.length) (E := fun x => [⟨x.2.1, tabB x.1 X.blocks.length x.2.2 (sureRow X.blocks)⟩]) (φ := fun x => x.2.2.length = X.blocks.length) rfl (fun w hw => sure_c _ _ _ X.blocks _ w (hbv0.keep keeps_block hw.chg) (by omega) hok) fun x hps => ?_
  obtain ⟨po, fp, ps⟩ := x
  simp only at hps
  rw [← hn] at hps ⊢
  simp only [List.cons_append, List.nil_append]
  repeat (first | refine g_op rfl ?_ | refine g_then ?_ | refine g_nil ?_ | refine g_region ?_ | refine g_seq ?_ | refine g_store ?_ | refine g_alloc rfl fun _ _ => ?_ | refine g_block ?_ | refine g_make rfl (by omega) (by omega) fun _ _ => ?_)
  rename_i p8 _ bo _
  refine g_nilVecs 3 1 n ?_
  rw [show (List.replicate n (Value.slice none 0 0)) = (List.replicate n (⟨none, 0, []⟩ : Row)).map valR by simp [valR], show (List.replicate n (Ent.vec none 0 0 3 1 [])) = (List.replicate n (⟨none, 0, []⟩ : Row)).map entR by simp [entR]]
  simp only [List.cons_append, List.nil_append]
  refine g_loop (fun (x : Nat × List Row) => x.1 ≤ n ∧ x.2.length = n ∧ ∀ i r, x.2[i]? = some r → r.l = gridTo (Hangs X.blocks) n x.1 0 i) (fun x => [(33, .int .i64 x.1), (31, .slice ba n bc), (32, .int .i64 n), (9, .slice (some ⟨bo, 0, none⟩) n n), (8, .pointer (some ⟨p8, 0, none⟩)), (6, .pointer (some ⟨p6, 0, none⟩)), (7, .pointer (some ⟨p7, 0, none⟩)), (5, .pointer (some ⟨p5, 0, none⟩))])
    (fun x => Ent.vec (some ⟨bo, 0, none⟩) n n 27 1 (x.2.map valR) :: Ent.box p8 [.slice (some ⟨po, 0, none⟩) n n] 71 :: ⟨fp, tabB po n ps (sureRow X.blocks)⟩ :: Ent.box p7 [.int .i64 0, .int .i64 0] 29 :: Ent.box p6 [.string X.name, .int .i64 X.params, .int .i64 X.regs, .slice ba n bc] 35 :: Ent.box p5 [.int .i64 0, .int .i64 0] 29 :: x.2.map entR) (fun x => n - x.1) (0, List.replicate n ⟨none, 0, []⟩)
    ⟨Nat.zero_le _, by simp, grid_new n⟩ (g_done (by repeat (first | exact trivial | refine ⟨rfl, ?_⟩)) (by simp)) fun x ⟨hi, hrl, hrows⟩ => ?_
  obtain ⟨b, rs⟩ := x
  simp only at hi hrl hrows ⊢
  repeat (first | refine g_op rfl ?_ | refine g_then ?_ | refine g_nil ?_ | refine g_region ?_ | refine g_seq ?_)
  refine g_cond (fun h1 => ?_) (fun h1 => ?_)
  · have hlt : b < n := by simpa using h1
    obtain ⟨B, hB⟩ := get_lt hn hlt
    have had : AddrIs ba bb bo' := ⟨hba (ne_of_get hB)⟩
    have hli : LtIs b n := ⟨hlt⟩
    obtain ⟨cs, hcs, pv', lv, tv, rfl, _, _, hphis, hlist, ht⟩ := hel b B hB
    obtain ⟨pa', pn, pc, _, _, rfl, _⟩ := hphis
    obtain ⟨la, ln, lc, _, _, rfl, _⟩ := hlist
    have ht0 := ht
    obtain ⟨ta, tn, tc, tb, to', rfl, htn, htnc, htnb, htc, hta, htel⟩ := ht
    have hci : CellsIs w0 bb (bo' + b * 6) _ := ⟨hcs⟩
    have hBok := hok B (List.mem_of_getElem? hB)
    repeat (first | refine g_op rfl ?_ | refine g_then ?_ | refine g_nil ?_ | refine g_region ?_ | refine g_seq ?_ | refine g_alloc rfl fun _ _ => ?_ | refine g_storeAgg ?_ | refine g_block ?_ | refine g_skip ?_)
    rename_i p11 _
    refine g_loop (fun (x : Nat × List Row) => x.1 ≤ n ∧ x.2.length = n ∧ ∀ i r, x.2[i]? = some r → r.l = gridTo (Hangs X.blocks) n b x.1 i) (fun x => [(41, .int .i64 x.1), (40, .int .i64 n), (10, .int .i64 b), (11, .pointer (some ⟨p11, 0, none⟩)), (33, .int .i64 b), (31, .slice ba n bc), (32, .int .i64 n), (9, .slice (some ⟨bo, 0, none⟩) n n), (8, .pointer (some ⟨p8, 0, none⟩)), (6, .pointer (some ⟨p6, 0, none⟩)), (7, .pointer (some ⟨p7, 0, none⟩)), (5, .pointer (some ⟨p5, 0, none⟩))])
      (fun x => Ent.box p11 [.slice pa' pn pc, .slice la ln lc, .int .i64 B.kind, .bool B.on.reg, .int .i64 B.on.n, .slice ta tn tc] 65 :: Ent.vec (some ⟨bo, 0, none⟩) n n 27 1 (x.2.map valR) :: Ent.box p8 [.slice (some ⟨po, 0, none⟩) n n] 71 :: ⟨fp, tabB po n ps (sureRow X.blocks)⟩ :: Ent.box p7 [.int .i64 0, .int .i64 0] 29 :: Ent.box p6 [.string X.name, .int .i64 X.params, .int .i64 X.regs, .slice ba n bc] 35 :: Ent.box p5 [.int .i64 0, .int .i64 0] 29 :: x.2.map entR) (fun x => n - x.1) (0, rs)
      ⟨Nat.zero_le _, hrl, hrows⟩ (g_done (by repeat (first | exact trivial | refine ⟨rfl, ?_⟩)) (List.Sublist.refl _)) fun x ⟨hj, hrl', hrows'⟩ => ?_
    obtain ⟨c, rs'⟩ := x
    simp only at hj hrl' hrows' ⊢
    repeat (first | refine g_op rfl ?_ | refine g_then ?_ | refine g_nil ?_ | refine g_region ?_ | refine g_seq ?_)
    refine g_cond (fun h2 => ?_) (fun h2 => ?_)
    · have hclt : c < n := by simpa using h2
      repeat (first | refine g_op rfl ?_ | refine g_then ?_ | refine g_nil ?_ | refine g_region ?_ | refine g_seq ?_ | refine g_store ?_ | refine g_alloc rfl fun _ _ => ?_ | refine g_block ?_ | refine g_skip ?_)
      rename_i p12 _
      refine g_callV rfl (fun w hw => containsFI_c (f := 52) [.pointer (some ⟨p8, 0, none⟩), .pointer (some ⟨p12, 0, none⟩)] (fun t => (sureRow X.blocks t.toNat)[c]?.getD false) _ B.to w (ht0.keep keeps_int hw.chg) fun w1 hw1 t ht => ?_) ?_
      · have htt := hBok.2 t ht
        obtain ⟨v, hv⟩ : ∃ v, (sureRow X.blocks t.toNat)[c]? = some v := ⟨_, sureRow_get (by omega)⟩
        rw [hv]
        exact hangOne_c p8 p12 po n ps (sureRow X.blocks) hps t t.toNat c (by omega) (by omega) hclt v hv w1 ((hw.boxCells p8).keep hw1) ((hw.boxCells p12).keep hw1) (tabB_keep hw1 (hw.get (k := 4) rfl))
      have hon : (B.to.any fun t => (sureRow X.blocks t.toNat)[c]?.getD false) = true ↔ ∃ t ∈ toOf X.blocks b, Sure X.blocks t.toNat c := by
        rw [List.any_eq_true, toOf_get hB]
        constructor
        · rintro ⟨t, ht, h⟩
          rw [sureRow_get (by omega)] at h
          exact ⟨t, ht, by simpa using h⟩
        · rintro ⟨t, ht, h⟩
          refine ⟨t, ht, ?_⟩
          rw [sureRow_get (by omega)]
          simpa using h
      generalize (B.to.any fun t => (sureRow X.blocks t.toNat)[c]?.getD false) = on at hon
      obtain ⟨pb, hpb⟩ : ∃ pb, ps[b]? = some pb := ⟨_, List.getElem?_eq_getElem (by omega)⟩
      obtain ⟨sv, hsv⟩ : ∃ sv, (sureRow X.blocks b)[c]? = some sv := ⟨_, sureRow_get (by omega)⟩
      have hlc : LtIs c n := ⟨hclt⟩
      have hpk1 : PackCell (tabB po n ps (sureRow X.blocks)) po (0 + b * 1) (.slice (some ⟨pb, 0, none⟩) n n) := ⟨fun w hF => by have := (hF b pb hpb).1; simpa [valP] using this⟩
      have hpk2 : PackCell (tabB po n ps (sureRow X.blocks)) pb (0 + c * 1) (.bool sv) := ⟨fun w hF => by have := (hF b pb hpb).2 c sv hsv; simpa using this⟩
      rw [sureRow_get (by omega)] at hsv
      simp only [Option.some.injEq] at hsv
      have hH : Hangs X.blocks b c ↔ (on && (decide ((c : Int) = b) || !sv)) = true := by
        simp only [Hangs, Bool.and_eq_true, Bool.or_eq_true, decide_eq_true_eq, hon, Bool.not_eq_true']
        rw [← hsv, decide_eq_false_iff_not]
        constructor
        · rintro ⟨h1, h2⟩; exact ⟨h1, h2.imp (fun h => by omega) id⟩
        · rintro ⟨h1, h2⟩; exact ⟨h1, h2.imp (fun h => by omega) id⟩
      repeat (first | refine g_op rfl ?_ | refine g_then ?_ | refine g_nil ?_ | refine g_seq ?_)
      refine g_mid ((64, .bool (on && (decide ((c : Int) = b) || !sv))) :: [(12, .pointer (some ⟨p12, 0, none⟩)), (41, .int .i64 c), (40, .int .i64 n), (10, .int .i64 b), (11, .pointer (some ⟨p11, 0, none⟩)), (33, .int .i64 b), (31, .slice ba n bc), (32, .int .i64 n), (9, .slice (some ⟨bo, 0, none⟩) n n), (8, .pointer (some ⟨p8, 0, none⟩)), (6, .pointer (some ⟨p6, 0, none⟩)), (7, .pointer (some ⟨p7, 0, none⟩)), (5, .pointer (some ⟨p5, 0, none⟩))]) (Ent.box p12 [.int .i64 c] 3 :: Ent.box p11 [.slice pa' pn pc, .slice la ln lc, .int .i64 B.kind, .bool B.on.reg, .int .i64 B.on.n, .slice ta tn tc] 65 :: Ent.vec (some ⟨bo, 0, none⟩) n n 27 1 (rs'.map valR) :: Ent.box p8 [.slice (some ⟨po, 0, none⟩) n n] 71 :: ⟨fp, tabB po n ps (sureRow X.blocks)⟩ :: Ent.box p7 [.int .i64 0, .int .i64 0] 29 :: Ent.box p6 [.string X.name, .int .i64 X.params, .int .i64 X.regs, .slice ba n bc] 35 :: Ent.box p5 [.int .i64 0, .int .i64 0] 29 :: rs'.map entR) ?_ ?_
      · cases on
        · refine g_draw mixed (by kernel_rfl) ?_
          repeat (first | refine q_op rfl ?_ | refine q_pass rfl ?_ | refine q_passU rfl ?_ | refine q_nil ?_)
          repeat (refine g_then ?_)
          exact g_done (by repeat (first | exact trivial | refine ⟨rfl, ?_⟩)) (List.Sublist.refl _)
        · refine g_draw mixed (by kernel_rfl) ?_
          repeat (first | refine q_op rfl ?_ | refine q_open ?_)
          generalize decide ((c : Int) = b) = kb
          cases kb
          · repeat (first | refine q_op rfl ?_ | refine q_open ?_ | refine q_nil ?_)
            repeat (refine g_then ?_)
            exact g_done (by repeat (first | exact trivial | refine ⟨rfl, ?_⟩)) (List.Sublist.refl _)
          · repeat (first | refine q_op rfl ?_ | refine q_open ?_ | refine q_pass rfl ?_ | refine q_nil ?_)
            repeat (refine g_then ?_)
            exact g_done (by repeat (first | exact trivial | refine ⟨rfl, ?_⟩)) (List.Sublist.refl _)
      generalize (on && (decide ((c : Int) = b) || !sv)) = o at hH
      cases o
      · repeat (first | refine g_then ?_ | refine g_nil ?_ | refine g_region ?_ | refine g_opS rfl ?_ | refine g_inBlock ?_ | refine g_skip ?_ | refine g_condF ?_ | refine g_add rfl (by omega) (by omega) ?_)
        exact g_next (c + 1, rs') ⟨hclt, hrl', grid_pass hrows' (fun h => by simpa using hH.1 h)⟩ (by simp only; omega) (by repeat (first | exact trivial | refine ⟨rfl, ?_⟩)) (List.Sublist.cons _ (List.Sublist.refl _))
      · have hs := hH.2 rfl
        obtain ⟨r, hr⟩ : ∃ r, rs'[b]? = some r := ⟨_, List.getElem?_eq_getElem (by omega)⟩
        have hrb := gridTo_bd (Hangs X.blocks) (n := n) (by omega) b c b (by omega)
        rw [← hrows' b r hr] at hrb
        have hbl : b < rs'.length := by omega
        have hxa : XAt (rs'.map valR) (b * 1) (.slice r.a r.l.length r.c) := ⟨by simp [hr, valR]⟩
        repeat (refine g_condT ?_)
        refine g_drawE (fun z : Option Addr × Nat => [(12, .pointer (some ⟨p12, 0, none⟩)), (41, .int .i64 c), (40, .int .i64 n), (10, .int .i64 b), (11, .pointer (some ⟨p11, 0, none⟩)), (33, .int .i64 b), (31, .slice ba n bc), (32, .int .i64 n), (9, .slice (some ⟨bo, 0, none⟩) n n), (8, .pointer (some ⟨p8, 0, none⟩)), (6, .pointer (some ⟨p6, 0, none⟩)), (7, .pointer (some ⟨p7, 0, none⟩)), (5, .pointer (some ⟨p5, 0, none⟩))]) (fun z => Ent.box p11 [.slice pa' pn pc, .slice la ln lc, .int .i64 B.kind, .bool B.on.reg, .int .i64 B.on.n, .slice ta tn tc] 65 :: Ent.vec (some ⟨bo, 0, none⟩) n n 27 1 ((rs'.set b ⟨z.1, z.2, r.l ++ [(c : Int)]⟩).map valR) :: Ent.box p8 [.slice (some ⟨po, 0, none⟩) n n] 71 :: ⟨fp, tabB po n ps (sureRow X.blocks)⟩ :: Ent.box p7 [.int .i64 0, .int .i64 0] 29 :: Ent.box p6 [.string X.name, .int .i64 X.params, .int .i64 X.regs, .slice ba n bc] 35 :: Ent.box p5 [.int .i64 0, .int .i64 0] 29 :: (rs'.set b ⟨z.1, z.2, r.l ++ [(c : Int)]⟩).map entR) mixed ?_ fun z => ?_
        · repeat' (first | refine g_take 0 rfl (by decide +kernel) ?_ | refine g_take 1 rfl (by decide +kernel) ?_ | refine g_take 2 rfl (by decide +kernel) ?_ | refine g_take 3 rfl (by decide +kernel) ?_ | refine g_take 4 rfl (by decide +kernel) ?_ | refine g_any (by decide +kernel) ?_ | refine any_nil | refine any_skip (by decide +kernel) ?_ | refine any_cons ?_ ?_ | refine g_op rfl ?_ | refine g_then ?_ | refine g_nil ?_ | refine g_build1 rfl rfl fun _ _ => ?_)
          all_goals
            rename_i bt _
            refine g_appendAt (b + 9) (xs := r.l.map (.int .i64)) (e := 3) (by simp [hr, entR]) rfl rfl (by omega) (by omega) fun a' c' => ?_
            refine g_eqH (H1 := Ent.vec (some ⟨bt, 0, none⟩) 1 1 3 1 [.int .i64 c] :: Ent.box p12 [.int .i64 c] 3 :: Ent.box p11 [.slice pa' pn pc, .slice la ln lc, .int .i64 B.kind, .bool B.on.reg, .int .i64 B.on.n, .slice ta tn tc] 65 :: Ent.vec (some ⟨bo, 0, none⟩) n n 27 1 (rs'.map valR) :: Ent.box p8 [.slice (some ⟨po, 0, none⟩) n n] 71 :: ⟨fp, tabB po n ps (sureRow X.blocks)⟩ :: Ent.box p7 [.int .i64 0, .int .i64 0] 29 :: Ent.box p6 [.string X.name, .int .i64 X.params, .int .i64 X.regs, .slice ba n bc] 35 :: Ent.box p5 [.int .i64 0, .int .i64 0] 29 :: (rs'.set b ⟨a', c', r.l ++ [(c : Int)]⟩).map entR) (by simp [entR, List.map_set]) ?_
            have hxs : XSet (rs'.map valR) (b * 1) (.slice a' (r.l.length + 1) c') ((rs'.set b ⟨a', c', r.l ++ [(c : Int)]⟩).map valR) := ⟨by simp [valR, List.map_set], by simpa using hbl⟩
            repeat' (first | refine g_any0 (by decide +kernel) ?_ | refine g_any (by decide +kernel) ?_ | refine any_nil | refine any_skip (by decide +kernel) ?_ | refine any_cons ?_ ?_ | refine g_op rfl ?_ | refine g_then ?_ | refine g_nil ?_ | refine g_storeV ?_)
            exact g_doneE (a', c') (by repeat (first | exact trivial | refine ⟨rfl, ?_⟩)) (List.Sublist.cons _ (List.Sublist.cons _ (List.Sublist.refl _)))
        · repeat (first | refine g_then ?_ | refine g_nil ?_ | refine g_region ?_ | refine g_opS rfl ?_ | refine g_inBlock ?_ | refine g_add rfl (by omega) (by omega) ?_)
          exact g_next (c + 1, rs'.set b ⟨z.1, z.2, r.l ++ [(c : Int)]⟩) ⟨hclt, by simpa using hrl', grid_add hrows' hr hs⟩ (by simp only; omega) (by repeat (first | exact trivial | refine ⟨rfl, ?_⟩)) (List.Sublist.refl _)
    · have hge : c = n := by have := h2; simp at this; omega
      repeat (first | refine g_then ?_ | refine g_nil ?_ | refine g_region ?_ | refine g_opS rfl ?_ | refine g_inBlock ?_ | refine g_add rfl (by omega) (by omega) ?_ | refine g_exit ?_ | refine g_thenExit ?_ | refine g_exitHere ?_)
      refine g_next (b + 1, rs') ⟨hlt, hrl', fun i q hq => ?_⟩ (by simp only; omega) (by repeat (first | exact trivial | refine ⟨rfl, ?_⟩)) (List.Sublist.cons _ (List.Sublist.refl _))
      rw [gridTo_next, hrows' i q hq, hge]
  · have hge : b = n := by have := h1; simp at this; omega
    repeat (first | refine g_then ?_ | refine g_seq ?_ | refine g_exit ?_ | refine g_thenExit ?_ | refine g_exitHere ?_)
    refine g_drawW [(4, .slice (some ⟨bo, 0, none⟩) n n), (5, .pointer (some ⟨p5, 0, none⟩))] (Ent.vec (some ⟨bo, 0, none⟩) n n 27 1 (rs.map valR) :: Ent.box p8 [.slice (some ⟨po, 0, none⟩) n n] 71 :: ⟨fp, tabB po n ps (sureRow X.blocks)⟩ :: Ent.box p7 [.int .i64 0, .int .i64 0] 29 :: Ent.box p6 [.string X.name, .int .i64 X.params, .int .i64 X.regs, .slice ba n bc] 35 :: Ent.box p5 [.int .i64 0, .int .i64 0] 29 :: rs.map entR) mixed ?_ ?_
    · repeat' (first | refine g_any0 (by decide +kernel) ?_ | refine g_any (by decide +kernel) ?_ | refine any_nil | refine any_skip (by decide +kernel) ?_ | refine any_cons ?_ ?_ | refine g_op rfl ?_ | refine g_then ?_ | refine g_nil ?_ | refine g_storeAgg ?_)
      all_goals exact g_done (by repeat (first | exact trivial | refine ⟨rfl, ?_⟩)) (List.Sublist.refl _)
    · repeat (first | refine g_then ?_ | refine g_ret ?_)
      refine g_retTC rfl fun w hw => ⟨(bo, rs), rfl, ?_, ?_, hrl⟩
      · exact hw.sub (List.Sublist.cons_cons _ (List.Sublist.cons _ (List.Sublist.cons _ (List.Sublist.cons _ (List.Sublist.cons _ (List.Sublist.cons _ (List.Sublist.refl _)))))))
      · exact gridTo_all hrl fun i r hr => by rw [hrows i r hr, hge]
end Go.Proofs.YtebajiafdkokjaaDoor

/- turneryref3.Hang: what it returns. -/
namespace Go.Proofs.YtebajiafdkokjaaDoor
open Go Go.RowKit
attribute [local irreducible] wpListIn Code.wpIn Exit.then Exit.inBlock bodyPost wpQuiet wpAnyIn
set_option maxHeartbeats 4000000

theorem sureTo_mem {bl : List LBlock} {b c n : Nat} : c ∈ sureTo bl b n ↔ c < n ∧ Sure bl b c := by
  classical
  simp [sureTo]
theorem tableL_row {bl : List LBlock} {rs : List Row} (h : rs.map (·.l) = tableL bl) {t : Nat} (ht : t < bl.length) : ∃ r, rs[t]? = some r ∧ r.l = (sureTo bl t bl.length).map fun x : Nat => (x : Int) := by
  have h1 : (rs.map (·.l))[t]? = some ((sureTo bl t bl.length).map fun x : Nat => (x : Int)) := by
    rw [h, tableL, List.getElem?_map, List.getElem?_range ht]; rfl
  rw [List.getElem?_map] at h1
  obtain ⟨r, hr, hl⟩ := Option.map_eq_some_iff.1 h1
  exact ⟨r, hr, hl⟩
theorem tableL_len {bl : List LBlock} {rs : List Row} (h : rs.map (·.l) = tableL bl) : rs.length = bl.length := by
  have := congrArg List.length h
  simpa [tableL] using this
theorem refHang_c (nm pa re : Value) (bl : List LBlock) (bs : Value) (w0 : World) (hbs : SlAt w0 bs 6 bl BlockV) (hlen : bl.length ≤ 100) (hok : GoodB bl) :
    Ret Tryd.prog 26 [.agg #[nm, pa, re, bs]] w0 fun v w' => ∃ x : Nat × List Row, v = .slice (some ⟨x.1, 0, none⟩) bl.length bl.length ∧ Wd NoS w0 (Ent.vec (some ⟨x.1, 0, none⟩) bl.length bl.length 27 1 (x.2.map valR) :: x.2.map entR) w' ∧ (x.2.map (·.l) = gridL (Hangs bl) bl.length ∧ x.2.length = bl.length) := by
  classical
  have hbs0 := hbs
  obtain ⟨ba, n, bc, bb, bo', rfl, hn, hnc, hnb, hbc, hba, hel⟩ := hbs
  refine ret_enter Tryd.func26 rfl Tryd.ntmps26 rfl (Wd.nil NoS w0) ?_
  repeat (first | refine g_op rfl ?_ | refine g_then ?_ | refine g_nil ?_ | refine g_region ?_ | refine g_seq ?_ | refine g_box rfl fun _ _ => ?_)
  rename_i p1 _
  refine g_callE (val := fun x : Nat × (Nat → Prop) × List Row => .slice (some ⟨x.1, 0, none⟩) bl.length bl.length) (E := fun x => [⟨x.2.1, tabF x.1 x.2.2⟩]) (φ := fun x => x.2.2.map (·.l) = tableL bl) rfl (fun w hw => sureTable_c _ _ _ bl _ w (hbs0.keep keeps_block hw.chg) (by omega) hok) fun x hps => ?_
  obtain ⟨to, fp, ts⟩ := x
  simp only at hps
  have htl := tableL_len hps
  rw [← hn]
  rw [← hn] at htl
  simp only [List.cons_append, List.nil_append]
  repeat (first | refine g_op rfl ?_ | refine g_then ?_ | refine g_nil ?_ | refine g_region ?_ | refine g_seq ?_ | refine g_block ?_ | refine g_make rfl (by omega) (by omega) fun _ _ => ?_)
  rename_i bo _
  refine g_nilVecs 3 1 n ?_
  rw [show (List.replicate n (Value.slice none 0 0)) = (List.replicate n (⟨none, 0, []⟩ : Row)).map valR by simp [valR], show (List.replicate n (Ent.vec none 0 0 3 1 [])) = (List.replicate n (⟨none, 0, []⟩ : Row)).map entR by simp [entR]]
  simp only [List.cons_append, List.nil_append]
  skip
  refine g_loop (fun (x : Nat × List Row) => x.1 ≤ n ∧ x.2.length = n ∧ ∀ i r, x.2[i]? = some r → r.l = gridTo (Hangs bl) n x.1 0 i) (fun x => [(5, .int .i64 x.1), (4, .slice (some ⟨bo, 0, none⟩) n n), (3, .slice (some ⟨to, 0, none⟩) n n), (1, .pointer (some ⟨p1, 0, none⟩))])
    (fun x => Ent.vec (some ⟨bo, 0, none⟩) n n 27 1 (x.2.map valR) :: ⟨fp, tabF to ts⟩ :: Ent.box p1 [nm, pa, re, .slice ba n bc] 35 :: x.2.map entR) (fun x => n - x.1) (0, List.replicate n ⟨none, 0, []⟩)
    ⟨Nat.zero_le _, by simp, grid_new n⟩ (g_done (by repeat (first | exact trivial | refine ⟨rfl, ?_⟩)) (by simp)) fun x ⟨hi, hrl, hrows⟩ => ?_
  obtain ⟨b, rs⟩ := x
  simp only at hi hrl hrows ⊢
  repeat (first | refine g_op rfl ?_ | refine g_then ?_ | refine g_nil ?_ | refine g_region ?_ | refine g_seq ?_)
  refine g_cond (fun h1 => ?_) (fun h1 => ?_)
  · have hlt : b < n := by simpa using h1
    obtain ⟨B, hB⟩ := get_lt hn hlt
    have had : AddrIs ba bb bo' := ⟨hba (ne_of_get hB)⟩
    have hli : LtIs b n := ⟨hlt⟩
    obtain ⟨cs, hcs, pv', lv, tv, rfl, _, _, _, _, ht⟩ := hel b B hB
    have ht0 := ht
    obtain ⟨ta, tn, tc, tb, to', rfl, htn, htnc, htnb, htc, hta, htel⟩ := ht
    have hci : CellsIs w0 bb (bo' + b * 6) _ := ⟨hcs⟩
    have hBok := hok B (List.mem_of_getElem? hB)
    repeat (first | refine g_op rfl ?_ | refine g_then ?_ | refine g_nil ?_ | refine g_region ?_ | refine g_seq ?_ | refine g_block ?_ | refine g_skip ?_)
    refine g_loop (fun (x : Nat × List Row) => x.1 ≤ n ∧ x.2.length = n ∧ ∀ i r, x.2[i]? = some r → r.l = gridTo (Hangs bl) n b x.1 i) (fun x => [(7, .int .i64 x.1), (5, .int .i64 b), (6, .slice ta tn tc), (4, .slice (some ⟨bo, 0, none⟩) n n), (3, .slice (some ⟨to, 0, none⟩) n n), (1, .pointer (some ⟨p1, 0, none⟩))])
      (fun x => Ent.vec (some ⟨bo, 0, none⟩) n n 27 1 (x.2.map valR) :: ⟨fp, tabF to ts⟩ :: Ent.box p1 [nm, pa, re, .slice ba n bc] 35 :: x.2.map entR) (fun x => n - x.1) (0, rs)
      ⟨Nat.zero_le _, hrl, hrows⟩ (g_done (by repeat (first | exact trivial | refine ⟨rfl, ?_⟩)) (List.Sublist.refl _)) fun x ⟨hj, hrl', hrows'⟩ => ?_
    obtain ⟨c, rs'⟩ := x
    simp only at hj hrl' hrows' ⊢
    repeat (first | refine g_op rfl ?_ | refine g_then ?_ | refine g_nil ?_ | refine g_region ?_ | refine g_seq ?_)
    refine g_cond (fun h2 => ?_) (fun h2 => ?_)
    · have hclt : c < n := by simpa using h2
      have hasRow : ∀ t, t < n → ∃ r, ts[t]? = some r ∧ PackCell (tabF to ts) to (0 + t * 1) (.slice r.a r.l.length r.c) ∧ ((c : Int) ∈ r.l ↔ Sure bl t c) := by
        intro t ht
        obtain ⟨r, hr, hrl⟩ := tableL_row hps (show t < bl.length by omega)
        refine ⟨r, hr, ⟨fun w hF => by have := (hF t r hr).1; simpa [valR] using this⟩, ?_⟩
        rw [hrl, mem_ints, sureTo_mem]
        exact ⟨fun h => h.2, fun h => ⟨by omega, h⟩⟩
      repeat (first | refine g_then ?_ | refine g_seq ?_ | refine g_skip ?_)
      (first | refine g_block ?_ | refine g_inBlock ?_)
      repeat (first | refine g_op rfl ?_ | refine g_then ?_ | refine g_nil ?_ | refine g_region ?_ | refine g_seq ?_)
      refine g_mid ((8, .bool (B.to.any fun t => decide (Sure bl t.toNat c))) :: [(7, .int .i64 c), (5, .int .i64 b), (6, .slice ta tn tc), (4, .slice (some ⟨bo, 0, none⟩) n n), (3, .slice (some ⟨to, 0, none⟩) n n), (1, .pointer (some ⟨p1, 0, none⟩))]) (Ent.vec (some ⟨bo, 0, none⟩) n n 27 1 (rs'.map valR) :: ⟨fp, tabF to ts⟩ :: Ent.box p1 [nm, pa, re, .slice ba n bc] 35 :: rs'.map entR) ?_ ?_
      · repeat (refine g_block ?_)
        refine g_loop (fun (x : Nat × Bool) => x.1 ≤ tn ∧ (x.2 = true ↔ ∃ q t, q < x.1 ∧ B.to[q]? = some t ∧ Sure bl t.toNat c)) (fun x => [(9, .int .i64 x.1), (8, .bool x.2), (7, .int .i64 c), (5, .int .i64 b), (6, .slice ta tn tc), (4, .slice (some ⟨bo, 0, none⟩) n n), (3, .slice (some ⟨to, 0, none⟩) n n), (1, .pointer (some ⟨p1, 0, none⟩))])
          (fun x => Ent.vec (some ⟨bo, 0, none⟩) n n 27 1 (rs'.map valR) :: ⟨fp, tabF to ts⟩ :: Ent.box p1 [nm, pa, re, .slice ba n bc] 35 :: rs'.map entR) (fun x => tn - x.1) (0, false)
          ⟨Nat.zero_le _, by simp⟩ (g_done (by repeat (first | exact trivial | refine ⟨rfl, ?_⟩)) (List.Sublist.refl _)) fun x ⟨hj3, hon⟩ => ?_
        obtain ⟨j, on⟩ := x
        simp only at hj3 hon ⊢
        repeat (first | refine g_op rfl ?_ | refine g_then ?_ | refine g_nil ?_ | refine g_region ?_ | refine g_seq ?_)
        refine g_cond (fun h3 => ?_) (fun h3 => ?_)
        · have hjlt : j < tn := by simpa using h3
          obtain ⟨t, htj⟩ := get_lt htn hjlt
          have htt := hBok.2 t (List.mem_of_getElem? htj)
          obtain ⟨k, hk⟩ : ∃ k : Nat, t = k := ⟨t.toNat, by omega⟩
          have hkn : k < n := by omega
          have had2 : AddrIs ta tb to' := ⟨hta (ne_of_get htj)⟩
          have hli2 : LtIs j tn := ⟨hjlt⟩
          obtain ⟨cs2, hcs2, rfl, _⟩ := htel j t htj
          have hci2 : CellsIs w0 tb (to' + j * 1) _ := ⟨hcs2⟩
          have hnk : NatIs t k := ⟨hk⟩
          have hlk : LtIs k n := ⟨hkn⟩
          obtain ⟨r, hr, hpk, hmem⟩ := hasRow k hkn
          repeat (first | refine g_op rfl ?_ | refine g_then ?_ | refine g_region ?_ | refine g_seq ?_ | refine g_block ?_ | refine g_skip ?_)
          refine g_callV rfl (fun w hw => has_c _ r.l c w ((hw.get (k := 1) rfl : tabF to ts w) k r hr).2) ?_
          rw [show decide ((c : Int) ∈ r.l) = decide (Sure bl k c) by rw [decide_eq_decide]; exact hmem]
          have hstep : ∀ v, (v = true ↔ (on = true ∨ Sure bl k c)) → (v = true ↔ ∃ q t, q < j + 1 ∧ B.to[q]? = some t ∧ Sure bl t.toNat c) := by
            intro v hv
            rw [hv, hon]
            constructor
            · rintro (⟨q, t', h1, h2, h3⟩ | h)
              · exact ⟨q, t', by omega, h2, h3⟩
              · exact ⟨j, t, by omega, htj, by rw [hk]; simpa using h⟩
            · rintro ⟨q, t', h1, h2, h3⟩
              by_cases e : q = j
              · subst e
                rw [htj] at h2
                simp only [Option.some.injEq] at h2
                subst h2
                right
                rw [hk] at h3; simpa using h3
              · exact .inl ⟨q, t', by omega, h2, h3⟩
          generalize hsk : decide (Sure bl k c) = sk
          cases sk
          · have hno : ¬ Sure bl k c := by simpa using hsk
            repeat (first | refine g_op rfl ?_ | refine g_then ?_ | refine g_nil ?_ | refine g_region ?_ | refine g_opS rfl ?_ | refine g_inBlock ?_ | refine g_skip ?_ | refine g_condF ?_ | refine g_add rfl (by omega) (by omega) ?_)
            exact g_next (j + 1, on) ⟨hjlt, hstep on (by simp [hno])⟩ (by simp only; omega) (by repeat (first | exact trivial | refine ⟨rfl, ?_⟩)) (List.Sublist.refl _)
          · have hyes : Sure bl k c := by simpa using hsk
            repeat (first | refine g_op rfl ?_ | refine g_then ?_ | refine g_nil ?_ | refine g_region ?_ | refine g_opS rfl ?_ | refine g_inBlock ?_ | refine g_condT ?_ | refine g_add rfl (by omega) (by omega) ?_)
            exact g_next (j + 1, true) ⟨hjlt, hstep true (by simp [hyes])⟩ (by simp only; omega) (by repeat (first | exact trivial | refine ⟨rfl, ?_⟩)) (List.Sublist.refl _)
        · have hge : j = tn := by have := h3; simp at this; omega
          have hfin : on = B.to.any fun t => decide (Sure bl t.toNat c) := by
            rw [Bool.eq_iff_iff, hon, List.any_eq_true]
            constructor
            · rintro ⟨q, t, _, h2, h3⟩
              exact ⟨t, List.mem_of_getElem? h2, by simpa using h3⟩
            · rintro ⟨t, ht, h⟩
              obtain ⟨q, hq⟩ := List.getElem?_of_mem ht
              exact ⟨q, t, by have := (List.getElem?_eq_some_iff.1 hq).1; omega, hq, by simpa using h⟩
          rw [hfin]
          repeat (first | refine g_then ?_ | refine g_exit ?_ | refine g_thenExit ?_ | refine g_exitHere ?_)
          exact g_done (by repeat (first | exact trivial | refine ⟨rfl, ?_⟩)) (List.Sublist.refl _)
      have hon : (B.to.any fun t => decide (Sure bl t.toNat c)) = true ↔ ∃ t ∈ toOf bl b, Sure bl t.toNat c := by
        rw [List.any_eq_true, toOf_get hB]
        simp
      generalize (B.to.any fun t => decide (Sure bl t.toNat c)) = on at hon
      have hlc : LtIs c n := ⟨hclt⟩
      obtain ⟨r, hr, hpk, hmem⟩ := hasRow b hlt
      have hH : Hangs bl b c ↔ (on && (decide ((c : Int) = b) || !decide (Sure bl b c))) = true := by
        simp only [Hangs, Bool.and_eq_true, Bool.or_eq_true, decide_eq_true_eq, hon, Bool.not_eq_true', decide_eq_false_iff_not]
        constructor
        · rintro ⟨h1, h2⟩; exact ⟨h1, h2.imp (fun h => by omega) id⟩
        · rintro ⟨h1, h2⟩; exact ⟨h1, h2.imp (fun h => by omega) id⟩
      repeat (first | refine g_op rfl ?_ | refine g_region ?_ | refine g_seq ?_)
      refine g_joinTo 63 (.bool (on && (decide ((c : Int) = b) || !decide (Sure bl b c)))) ?_ ?_
      · cases on
        · repeat (first | refine g_op rfl ?_ | refine g_then ?_ | refine g_nil ?_ | refine g_pass rfl ?_ | refine g_passU rfl ?_)
          exact g_done (by repeat (first | exact trivial | refine ⟨rfl, ?_⟩)) (List.Sublist.refl _)
        · repeat (first | refine g_op rfl ?_ | refine g_open ?_)
          generalize decide ((c : Int) = b) = kb
          cases kb
          · repeat (first | refine g_op rfl ?_ | refine g_open ?_)
            refine g_callV rfl (fun w hw => has_c _ r.l c w ((hw.get (k := 1) rfl : tabF to ts w) b r hr).2) ?_
            rw [show decide ((c : Int) ∈ r.l) = decide (Sure bl b c) by rw [decide_eq_decide]; exact hmem]
            repeat (first | refine g_op rfl ?_ | refine g_then ?_ | refine g_nil ?_ | refine g_open ?_)
            exact g_done (by repeat (first | exact trivial | refine ⟨rfl, ?_⟩)) (List.Sublist.refl _)
          · repeat (first | refine g_op rfl ?_ | refine g_then ?_ | refine g_nil ?_ | refine g_open ?_ | refine g_pass rfl ?_)
            exact g_done (by repeat (first | exact trivial | refine ⟨rfl, ?_⟩)) (List.Sublist.refl _)
      generalize (on && (decide ((c : Int) = b) || !decide (Sure bl b c))) = o at hH
      cases o
      · repeat (first | refine g_op rfl ?_ | refine g_then ?_ | refine g_nil ?_ | refine g_region ?_ | refine g_opS rfl ?_ | refine g_inBlock ?_ | refine g_skip ?_ | refine g_condF ?_ | refine g_add rfl (by omega) (by omega) ?_)
        exact g_next (c + 1, rs') ⟨hclt, hrl', grid_pass hrows' (fun h => by simpa using hH.1 h)⟩ (by simp only; omega) (by repeat (first | exact trivial | refine ⟨rfl, ?_⟩)) (List.Sublist.refl _)
      · have hs := hH.2 rfl
        obtain ⟨r, hr⟩ : ∃ r, rs'[b]? = some r := ⟨_, List.getElem?_eq_getElem (by omega)⟩
        have hrb := gridTo_bd (Hangs bl) (n := n) (by omega) b c b (by omega)
        rw [← hrows' b r hr] at hrb
        have hbl : b < rs'.length := by omega
        have hxa : XAt (rs'.map valR) (b * 1) (.slice r.a r.l.length r.c) := ⟨by simp [hr, valR]⟩
        repeat (first | refine g_op rfl ?_ | refine g_then ?_ | refine g_nil ?_ | refine g_region ?_ | refine g_condT ?_ | refine g_build1 rfl rfl fun _ _ => ?_)
        rename_i bt _
        refine g_appendAt (b + 4) (xs := r.l.map (.int .i64)) (e := 3) (by simp [hr, entR]) rfl rfl (by omega) (by omega) fun a' c' => ?_
        refine g_eqH (H1 := Ent.vec (some ⟨bt, 0, none⟩) 1 1 3 1 [.int .i64 c] :: Ent.vec (some ⟨bo, 0, none⟩) n n 27 1 (rs'.map valR) :: ⟨fp, tabF to ts⟩ :: Ent.box p1 [nm, pa, re, .slice ba n bc] 35 :: (rs'.set b ⟨a', c', r.l ++ [(c : Int)]⟩).map entR) (by simp [entR, List.map_set]) ?_
        have hxs : XSet (rs'.map valR) (b * 1) (.slice a' (r.l.length + 1) c') ((rs'.set b ⟨a', c', r.l ++ [(c : Int)]⟩).map valR) := ⟨by simp [valR, List.map_set], by simpa using hbl⟩
        repeat (first | refine g_op rfl ?_ | refine g_then ?_ | refine g_nil ?_ | refine g_region ?_ | refine g_opS rfl ?_ | refine g_inBlock ?_ | refine g_add rfl (by omega) (by omega) ?_ | refine g_storeV ?_)
        exact g_next (c + 1, rs'.set b ⟨a', c', r.l ++ [(c : Int)]⟩) ⟨hclt, by simpa using hrl', grid_add hrows' hr hs⟩ (by simp only; omega) (by repeat (first | exact trivial | refine ⟨rfl, ?_⟩)) (List.Sublist.cons _ (List.Sublist.refl _))
    · have hge : c = n := by have := h2; simp at this; omega
      repeat (first | refine g_op rfl ?_ | refine g_then ?_ | refine g_nil ?_ | refine g_region ?_ | refine g_opS rfl ?_ | refine g_inBlock ?_ | refine g_add rfl (by omega) (by omega) ?_ | refine g_exit ?_ | refine g_thenExit ?_ | refine g_exitHere ?_)
      refine g_next (b + 1, rs') ⟨hlt, hrl', fun i q hq => ?_⟩ (by simp only; omega) (by repeat (first | exact trivial | refine ⟨rfl, ?_⟩)) (List.Sublist.refl _)
      rw [gridTo_next, hrows' i q hq, hge]
  · have hge : b = n := by have := h1; simp at this; omega
    repeat (first | refine g_op rfl ?_ | refine g_then ?_ | refine g_nil ?_ | refine g_region ?_ | refine g_seq ?_ | refine g_exit ?_ | refine g_thenExit ?_ | refine g_exitHere ?_ | refine g_ret ?_)
    exact g_ret1 rfl fun w hw => ⟨(bo, rs), rfl, hw.sub (List.Sublist.cons_cons _ (List.Sublist.cons _ (List.Sublist.cons _ (List.Sublist.refl _)))), gridTo_all hrl fun i r hr => by rw [hrows i r hr, hge], hrl⟩
end Go.Proofs.YtebajiafdkokjaaDoor

/- The law DomHangs, walked. -/
namespace Go.Proofs.YtebajiafdkokjaaDoor
open Go Go.RowKit
attribute [local irreducible] wpListIn Code.wpIn Exit.then Exit.inBlock bodyPost wpQuiet wpAnyIn
set_option maxHeartbeats 2000000

theorem gridL_bd {R : Nat → Nat → Prop} {n : Nat} (hn : n ≤ 100) {l : List Int} (h : l ∈ gridL R n) : l.length ≤ 1000 ∧ ∀ x ∈ l, inI x := by
  classical
  obtain ⟨b, hb, rfl⟩ := List.mem_map.1 h
  have := gridTo_bd R hn b n b hn
  simp only [gridTo, Nat.lt_irrefl, if_false, if_true] at this
  exact ⟨by omega, this.2⟩
/-- a table of rows of numbers, packed -/
theorem Wd.grid {S : Nat → Prop} {w0 w : World} {rs : List Row} {bo n e : Nat} {R : Nat → Nat → Prop} (h : Wd S w0 (Ent.vec (some ⟨bo, 0, none⟩) n n e 1 (rs.map valR) :: rs.map entR) w) (hl : rs.length = n) (hn : n ≤ 100) (hr : rs.map (·.l) = gridL R n) :
    Wd S w0 [⟨fps (Ent.vec (some ⟨bo, 0, none⟩) n n e 1 (rs.map valR) :: rs.map entR), fun w => SlAt w (.slice (some ⟨bo, 0, none⟩) n n) 1 (gridL R n) RowV⟩] w := by
  have h1 : Wd S w0 ((Ent.vec (some ⟨bo, 0, none⟩) n n e 1 (rs.map valR) :: rs.map entR) ++ []) w := by rw [List.append_nil]; exact h
  refine h1.pack _ fun w2 hw2 => ?_
  rw [← hr]
  refine rows_sl (H := []) (by rw [List.append_nil]; exact hw2) hl.symm hn fun r hr' => gridL_bd hn (hr ▸ List.mem_map.2 ⟨r, hr', rfl⟩)
theorem hangLaw_c (u : LUnit) (k : Int) (hk : inI k) (g fs : Value) (w0 : World) (hg : SlAt w0 g 3 u.globals GlobalV) (hf : SlAt w0 fs 4 u.funcs FuncV) (hways : CellsAt w0 0 0 waysC) :
    RetV Tryd.prog 6 [.agg #[g, fs], .int .i64 k] w0 (.bool true) := by
  have hg0 := hg
  have hf0 := hf
  obtain ⟨ga, gn, gc, gb, go, rfl, _⟩ := hg
  obtain ⟨fa, fn, fc, fb, fo, rfl, hfn, hfnc, hfnb, hfc, hfa, hfel⟩ := hf
  refine ret_enter Tryd.func6 rfl Tryd.ntmps6 rfl (Wd.nil NoS w0) ?_
  repeat (first | refine g_op rfl ?_ | refine g_then ?_ | refine g_nil ?_ | refine g_region ?_ | refine g_seq ?_ | refine g_box rfl fun _ _ => ?_)
  rename_i p2 _
  refine g_callE (val := fun b : Bool => .bool b) (E := fun _ => []) (φ := fun b => b = false → light u) rfl (fun w hw => heavy_c u _ _ w (hf0.keep keeps_func hw.chg) ⟨_, _, _, rfl⟩) fun b hb => ?_
  simp only [List.nil_append]
  cases b
  case true =>
    repeat (first | refine g_then ?_ | refine g_nil ?_ | refine g_region ?_ | refine g_seq ?_ | refine g_opS rfl ?_ | refine g_condT ?_ | refine g_ret ?_ | refine g_thenRet ?_)
    exact g_retV rfl rfl
  have hl := hb rfl
  repeat (first | refine g_op rfl ?_ | refine g_then ?_ | refine g_nil ?_ | refine g_region ?_ | refine g_seq ?_ | refine g_skip ?_ | refine g_condF ?_)
  by_cases hbad : (askedL u k).1 ≠ 0
  · refine g_callV rfl (fun w hw => hang_bad u hl k hk hbad _ _ w (hg0.keep keeps_global hw.chg) (hf0.keep keeps_func hw.chg) (hways.keep hw.chg)) ?_
    repeat (first | refine g_op rfl ?_ | refine g_then ?_ | refine g_nil ?_ | refine g_region ?_ | refine g_seq ?_ | refine g_alloc rfl fun _ _ => ?_ | refine g_storeAgg ?_)
    refine g_callV rfl (fun w hw => asked_c u hl k _ _ w (hg0.keep keeps_global hw.chg) (hf0.keep keeps_func hw.chg) (hways.keep hw.chg)) ?_
    repeat (first | refine g_op rfl ?_ | refine g_then ?_ | refine g_nil ?_ | refine g_region ?_ | refine g_seq ?_ | refine g_alloc rfl fun _ _ => ?_ | refine g_storeAgg ?_)
    refine g_cond (fun h1 => ?_) (fun h1 => ?_)
    · repeat (first | refine g_op rfl ?_ | refine g_region ?_ | refine g_seq ?_)
      rw [show (decide ((askedL u k).1 = (askedL u k).1) && decide ((askedL u k).2 = (askedL u k).2)) = true by simp]
      repeat (first | refine g_op rfl ?_ | refine g_then ?_ | refine g_nil ?_ | refine g_opS rfl ?_ | refine g_open ?_ | refine g_ret ?_ | refine g_thenRet ?_)
      exact g_retV rfl rfl
    · exact absurd h1 (by simp [hbad])
  have hgood : (askedL u k).1 = 0 := by simpa using hbad
  obtain ⟨hch, has, i, X, rfl, hX, hok⟩ := asked_ok hgood
  have hil : i < fn := by rw [hfn]; exact (List.getElem?_eq_some_iff.1 hX).1
  have had : AddrIs fa fb fo := ⟨hfa (ne_of_get hX)⟩
  have hli : LtIs i fn := ⟨hil⟩
  obtain ⟨cs, hcs, bv, rfl, hpi, hri, hbv⟩ := hfel i X hX
  have hci : CellsIs w0 fb (fo + i * 4) _ := ⟨hcs⟩
  have hbv0 := hbv
  obtain ⟨ba, bn, bc, _, _, rfl, hbn, _⟩ := hbv
  have h24 := (hl.2 X (List.mem_of_getElem? hX)).1
  refine g_callE (val := fun x : Nat × (Nat → Prop) => .tuple #[.slice (some ⟨x.1, 0, none⟩) X.blocks.length X.blocks.length, .agg #[.int .i64 0, .int .i64 0]]) (E := fun x => [⟨x.2, fun w => SlAt w (.slice (some ⟨x.1, 0, none⟩) X.blocks.length X.blocks.length) 1 (gridL (Hangs X.blocks) X.blocks.length) RowV⟩]) (φ := fun _ => True) rfl (fun w hw =>
    (hang_ok u hl i hgood X hX hok _ _ w (hg0.keep keeps_global hw.chg) (hf0.keep keeps_func hw.chg) (hways.keep hw.chg)).mono fun v w' ⟨x, h1, h2, h3, h4⟩ => ⟨(x.1, _), h1, h2.grid h4 (by omega) h3, trivial⟩) fun x _ => ?_
  obtain ⟨ra, rp⟩ := x
  simp only [List.cons_append, List.nil_append]
  repeat (first | refine g_op rfl ?_ | refine g_then ?_ | refine g_nil ?_ | refine g_region ?_ | refine g_seq ?_ | refine g_alloc rfl fun _ _ => ?_ | refine g_storeAgg ?_)
  rename_i p6 _
  refine g_callV rfl (fun w hw => asked_c u hl i _ _ w (hg0.keep keeps_global hw.chg) (hf0.keep keeps_func hw.chg) (hways.keep hw.chg)) ?_
  rw [has]
  repeat (first | refine g_op rfl ?_ | refine g_then ?_ | refine g_nil ?_ | refine g_region ?_ | refine g_seq ?_ | refine g_open ?_ | refine g_alloc rfl fun _ _ => ?_ | refine g_storeAgg ?_ | refine g_skip ?_ | refine g_condF ?_)
  rename_i p7 _
  refine g_callE (val := fun x : Nat × (Nat → Prop) => .slice (some ⟨x.1, 0, none⟩) X.blocks.length X.blocks.length) (E := fun x => [⟨x.2, fun w => SlAt w (.slice (some ⟨x.1, 0, none⟩) X.blocks.length X.blocks.length) 1 (gridL (Hangs X.blocks) X.blocks.length) RowV⟩]) (φ := fun _ => True) rfl (fun w hw =>
    (refHang_c _ _ _ X.blocks _ w (hbv0.keep keeps_block hw.chg) (by omega) hok).mono fun v w' ⟨x, h1, h2, h3, h4⟩ => ⟨(x.1, _), h1, h2.grid h4 (by omega) h3, trivial⟩) fun y _ => ?_
  obtain ⟨sa, sp⟩ := y
  simp only [List.cons_append, List.nil_append]
  refine g_open ?_
  refine g_callV rfl (fun w hw => rows_c _ _ (gridL (Hangs X.blocks) X.blocks.length) (gridL (Hangs X.blocks) X.blocks.length) w ?_ ?_) ?_
  · exact hw.get (k := 3) rfl
  · exact hw.get (k := 0) rfl
  rw [show decide (gridL (Hangs X.blocks) X.blocks.length = gridL (Hangs X.blocks) X.blocks.length) = true by simp]
  try simp only [decide_true, Bool.and_self]
  repeat (first | refine g_op rfl ?_ | refine g_then ?_ | refine g_nil ?_ | refine g_opS rfl ?_ | refine g_ret ?_)
  exact g_retV rfl rfl
end Go.Proofs.YtebajiafdkokjaaDoor

/- slices.Reverse, graph.OrderOf, graph.Order; two more rules. -/
namespace Go.Proofs.YtebajiafdkokjaaDoor
open Go Go.RowKit

section
variable {P : Program} {ro : Option Nat} {N : Nat} {ds : List Deferred} {S : Nat → Prop} {w0 : World} {L L' : List (Nat × Value)} {H H' : List Ent} {ops : Array Oper} {rest : List Oper} {Q : Exit → Act → World → Prop} {x y : Operand}
theorem g_endTC {fn : Func} {R : Value → World → Prop} {s t T n b j bt : Nat} {u : Value} {cs : List Value} (hr : fn.results = #[.tmp s, .cell t T]) [hu : SlotIs L s u] [hv : SlotIs L t (.pointer (some ⟨b, 0, none⟩))] [h : AggSize P T n] [hb : BoxIn H b j cs bt] [hl : LenIs cs n] (hR : ∀ w, Wd S w0 H w → R (.tuple #[u, .agg cs.toArray]) w) : G N [] S w0 L H (bodyPost P fn (fun e w' => ∃ v, e = .returned v ∧ R v w') .normal) := fun a w hS => g_retTC (P := P) (T := T) hr hR a w hS
theorem g_end1 {fn : Func} {R : Value → World → Prop} {t : Nat} {v : Value} (hr : fn.results = #[.tmp t]) [hv : SlotIs L t v] (hR : ∀ w, Wd S w0 H w → R v w) : G N [] S w0 L H (bodyPost P fn (fun e w' => ∃ v, e = .returned v ∧ R v w') .normal) := fun a w hS => g_ret1 (P := P) hr hR a w hS
/-- '[]T{}' -/
theorem g_build0 {d ty T e s by' : Nat} {zs : List Value} {pos : String} {aft : Array Go.Edge} [h : ElemInfo P T e s by' zs] (hd : okPut d N L = true)
    (k : ∀ b, w0.heap.size ≤ b → G N ds S w0 ((d, .slice (some ⟨b, 0, none⟩) 0 0) :: L) (Ent.vec (some ⟨b, 0, none⟩) 0 0 e s [] :: H) (wpListIn (FW ro) 0 P ops Q rest)) : G N ds S w0 L H (wpListIn (FW ro) 0 P ops Q (⟨some d, .buildSlice T 0 #[], ty, pos, aft, none⟩ :: rest)) := by
  intro a w hS
  obtain ⟨i, zz, hi, _, _, _, _⟩ := h.get
  refine step_val (v := .slice (some ⟨w.heap.size, 0, none⟩) 0 0) (w' := w.alloc (.cells #[] e)) rfl (fun _ h => by cases h) ?_ ?_
  · have hr : (Instr.buildSlice T 0 #[]).run P w = .ok (.slice (some ⟨w.heap.size, 0, none⟩) 0 0) (w.alloc (.cells #[] e)) := by
      simp [Instr.buildSlice, run_underlying h.und, sizeOf, typeInfo, hi, Instr.fill, newRow]
      congr 2
      exact Array.eq_empty_of_size_eq_zero (by simp)
    simp [execOp, hr]
  · exact k _ hS.wd.size _ _ ⟨hS.fr.putOk hd _, hS.wd.vecNew e s 0 [] (by simp) (by simp [maxLen])⟩
theorem set_self {α : Type} {l : List α} {k : Nat} {e : α} (h : l[k]? = some e) : l.set k e = l := by
  apply List.ext_getElem?
  intro i
  rw [List.getElem?_set]
  split
  · rename_i hi; subst hi
    rw [if_pos (List.getElem?_eq_some_iff.1 h).1, h]
  · rfl
/-- 'append(x, y...)' of numbers that can be read -/
theorem g_appendI {d ty T e by' : Nat} {z : Value} {pos : String} {aft : Array Go.Edge} {ad a2 : Option Addr} {n c m c2 k : Nat} {xs : List Value} [h : ElemInfo P T e 1 by' [z]] [hx : Ev L x (.slice ad n c)] [hy : Ev L y (.slice a2 m c2)]
    [hv : VecIn H ad n c k e 1 xs] (hd : okPut d N L = true) (l : List Int) (hsl : ∀ w, Wd S w0 H w → SlAt w (.slice a2 m c2) 1 l IntV) (hbytes : (n + m) * by' ≤ 140737488355328) (h63 : n + m ≤ 140737488355328)
    {F : Ent → List Ent} [hF : SetFn H k F] (kk : ∀ a' c', G N ds S w0 ((d, .slice a' (n + m) c') :: L) (F (Ent.vec a' (n + m) c' e 1 (xs ++ l.map (.int .i64)))) (wpListIn (FW ro) 0 P ops Q rest)) : G N ds S w0 L H (wpListIn (FW ro) 0 P ops Q (⟨some d, .call { callee := .builtin .append, args := #[x, y], argTypes := #[T, T] }, ty, pos, aft, none⟩ :: rest)) := by
  intro a w hS
  obtain ⟨a2', m', c2', b, o, hval, hm, hmc, _, _, ha, hel⟩ := hsl w hS.wd
  simp only [Value.slice.injEq] at hval
  obtain ⟨rfl, rfl, rfl⟩ := hval
  by_cases h0 : m = 0
  · subst h0
    have hl : l = [] := List.eq_nil_of_length_eq_zero hm.symm
    subst hl
    obtain ⟨i, zz, hi, _, _, _, _⟩ := h.get
    have hnc : n ≤ c := by
      obtain ⟨_, h2⟩ := hS.wd.get hv.at'
      rcases h2 with ⟨_, h2, h3⟩ | ⟨_, _, _, _, h3, _⟩ <;> omega
    have hr : (Builtin.append_ #[T, T] ty #[.slice ad n c, .slice a2 0 c2]).run P w = .ok (.slice ad n c) w := by
      cases ad <;> cases a2 <;> simp [Builtin.append_, run_underlying h.und, sizeOf, typeInfo, hi, Builtin.lenOf, Builtin.firstCells, hnc, storeCells, loadCells, loadCellsFrom]
    refine step_val (v := .slice ad n c) (w' := w) rfl (fun _ h => by cases h) ?_ ?_
    · simp [execOp, resolve, invoke, builtin, hx.eq _ _ _ hS.fr, hy.eq _ _ _ hS.fr, hr]
    · have := kk ad c
      simp only [List.map_nil, List.append_nil, Nat.add_zero] at this
      rw [← hF.eq, set_self hv.at'] at this
      exact this _ _ ⟨hS.fr.putOk hd _, hS.wd⟩
  · have hne : l ≠ [] := by rintro rfl; simp at hm; exact h0 hm
    have ha := ha hne
    subst ha
    obtain ⟨a', c', w', hr, hw'⟩ := hS.wd.append (P := P) (ty := ty) (c2 := c2) (a2 := ⟨b, o, none⟩) (m := m) (news := l.map (.int .i64)) h (by omega) hv.at' (by omega) (by simp [hm]) (fun j u hj => by
      rw [List.getElem?_map] at hj
      obtain ⟨q, hq, rfl⟩ := Option.map_eq_some_iff.1 hj
      obtain ⟨cs, hc, rfl, _⟩ := hel j q hq
      have := hc 0 _ rfl
      rw [Addr.add_lit]
      simpa using this) (fun u hu => by obtain ⟨q, _, rfl⟩ := List.mem_map.1 hu; rfl) hbytes h63 rfl
    refine step_val (v := .slice a' (n + m) c') (w' := w') rfl (fun _ h => by cases h) ?_ ?_
    · simp [execOp, resolve, invoke, builtin, hx.eq _ _ _ hS.fr, hy.eq _ _ _ hS.fr, hr]
    · rw [hF.eq] at hw'
      exact kk a' c' _ _ ⟨hS.fr.putOk hd _, hw'⟩
end
attribute [local irreducible] wpListIn Code.wpIn Exit.then Exit.inBlock bodyPost wpQuiet wpAnyIn
set_option maxHeartbeats 4000000

instance (x : Nat) : OneV (intN x) := ⟨rfl⟩
theorem rev_swap {l l' : List Nat} {i j : Nat} {x y : Nat} (hl : l'.length = l.length) (hij : i < j) (hj : i + j + 1 = l.length) (h : ∀ k, k < l.length → l'[k]? = if k < i ∨ j < k then l[l.length - 1 - k]? else l[k]?) (hx : l'[i]? = some x) (hy : l'[j]? = some y) :
    ∀ k, k < l.length → ((l'.set i y).set j x)[k]? = if k < i + 1 ∨ j - 1 < k then l[l.length - 1 - k]? else l[k]? := by
  intro k hk
  have hi := h i (by omega)
  have hjj := h j (by omega)
  rw [if_neg (by omega), hx] at hi
  rw [if_neg (by omega), hy] at hjj
  rw [List.getElem?_set, List.getElem?_set]
  by_cases e1 : j = k
  · subst e1
    rw [if_pos rfl, if_pos (by simp; omega), if_pos (by omega), show l.length - 1 - j = i by omega, hi]
  · rw [if_neg e1]
    by_cases e2 : i = k
    · subst e2
      rw [if_pos rfl, if_pos (by omega), if_pos (by omega), show l.length - 1 - i = j by omega, hjj]
    · rw [if_neg e2, h k hk]
      by_cases e3 : k < i ∨ j < k
      · rw [if_pos e3, if_pos (by omega)]
      · rw [if_neg e3, if_neg (by omega)]
theorem rev_done {l l' : List Nat} {i : Nat} (hl : l'.length = l.length) (hi : l.length ≤ 2 * i + 1) (h : ∀ k, k < l.length → l'[k]? = if k < i ∨ (l.length : Int) - 1 - i < k then l[l.length - 1 - k]? else l[k]?) : l' = l.reverse := by
  apply List.ext_getElem?
  intro k
  by_cases hk : k < l.length
  · rw [h k hk, List.getElem?_reverse hk]
    by_cases e : k < i ∨ (l.length : Int) - 1 - i < k
    · rw [if_pos e]
    · rw [if_neg e, show l.length - 1 - k = k by omega]
  · rw [List.getElem?_eq_none (by omega), List.getElem?_eq_none (by rw [List.length_reverse]; omega)]
theorem reverse_c (a : Option Addr) (c : Nat) (l : List Nat) (hlen : l.length ≤ 100000) (w : World) (hw : Wd (fps [Ent.vec a l.length c 3 1 (l.map intN)]) w [Ent.vec a l.length c 3 1 (l.map intN)] w) :
    Ret Tryd.prog 84 [.slice a l.length c] w fun u w' => ∃ _ : Unit, u = .tuple #[] ∧ Wd (fps [Ent.vec a l.length c 3 1 (l.map intN)]) w [Ent.vec a l.length c 3 1 (l.reverse.map intN)] w' ∧ True := by
  refine ret_enter Tryd.func84 rfl Tryd.ntmps84 rfl hw ?_
  generalize fps [Ent.vec a l.length c 3 1 (l.map intN)] = SS
  repeat (first | refine g_op rfl ?_ | refine g_then ?_ | refine g_nil ?_ | refine g_region ?_ | refine g_seq ?_ | refine g_block ?_ | refine g_sub rfl (by omega) (by omega) ?_)
  refine g_loop (fun (x : Nat × Int × Option Addr × List Nat) => x.2.1 = (l.length : Int) - 1 - x.1 ∧ x.1 ≤ l.length ∧ x.2.2.2.length = l.length ∧ x.2.2.1 = a ∧ ∀ k, k < l.length → x.2.2.2[k]? = if k < x.1 ∨ (l.length : Int) - 1 - x.1 < k then l[l.length - 1 - k]? else l[k]?) (fun x => [(2, .int .i64 x.1), (3, .int .i64 x.2.1), (0, .slice x.2.2.1 l.length c)])
    (fun x => [Ent.vec x.2.2.1 l.length c 3 1 (x.2.2.2.map intN)]) (fun x => l.length - x.1) (0, (l.length : Int) - 1, a, l) ⟨by simp, Nat.zero_le _, rfl, rfl, fun k hk => by rw [if_neg (by simp only; omega)]⟩ (g_done (by repeat (first | exact trivial | refine ⟨rfl, ?_⟩)) (List.Sublist.refl _)) fun x ⟨hj, hi, hl, ha, hall⟩ => ?_
  obtain ⟨i, j, a', l'⟩ := x
  simp only at hj hi hl ha hall ⊢
  repeat (first | refine g_op rfl ?_ | refine g_then ?_ | refine g_nil ?_ | refine g_region ?_ | refine g_seq ?_)
  refine g_cond (fun h1 => ?_) (fun h1 => ?_)
  · have hlt : (i : Int) < j := by simpa using h1
    obtain ⟨jn, rfl⟩ : ∃ jn : Nat, j = jn := ⟨j.toNat, by omega⟩
    refine g_vec 0 rfl (by omega) fun rb ro hra => ?_
    obtain ⟨x, hx⟩ : ∃ x, l'[i]? = some x := ⟨_, List.getElem?_eq_getElem (by omega)⟩
    obtain ⟨y, hy⟩ : ∃ y, l'[jn]? = some y := ⟨_, List.getElem?_eq_getElem (by omega)⟩
    rw [hra]
    have hli : LtIs i l.length := ⟨by omega⟩
    have hlj : LtIs jn l.length := ⟨by omega⟩
    have he1 : ElAt l' i x := ⟨hx⟩
    have he2 : ElAt l' jn y := ⟨hy⟩
    have he3 : ElAt (l'.set i y) jn y := ⟨by rw [List.getElem?_set, if_neg (by omega), hy]⟩
    have he4 : ElAt (l'.set jn x) i x := ⟨by rw [List.getElem?_set, if_neg (by omega), hx]⟩
    repeat (first | refine g_then ?_ | refine g_seq ?_ | refine g_block ?_ | refine g_skip ?_)
    refine g_drawW [(2, .int .i64 i), (3, .int .i64 jn), (0, .slice (some ⟨rb, ro, none⟩) l.length c)] [Ent.vec (some ⟨rb, ro, none⟩) l.length c 3 1 (((l'.set i y).set jn x).map intN)] mixed ?_ ?_
    · repeat' (first | refine g_take 0 rfl (by decide +kernel) ?_ | refine g_take 1 rfl (by decide +kernel) ?_ | refine g_take 2 rfl (by decide +kernel) ?_ | refine g_take 3 rfl (by decide +kernel) ?_ | refine g_take 4 rfl (by decide +kernel) ?_ | refine g_take 5 rfl (by decide +kernel) ?_ | refine g_take 6 rfl (by decide +kernel) ?_ | refine g_take 8 rfl (by decide +kernel) ?_ | refine g_take 9 rfl (by decide +kernel) ?_ | refine g_take 10 rfl (by decide +kernel) ?_ | refine g_take 12 rfl (by decide +kernel) ?_ | refine g_take 14 rfl (by decide +kernel) ?_ | refine g_any0 (by decide +kernel) ?_ | refine g_any (by decide +kernel) ?_ | refine any_nil | refine any_skip (by decide +kernel) ?_ | refine any_cons ?_ ?_ | refine g_op rfl ?_ | refine g_then ?_ | refine g_nil ?_ | refine g_storeV ?_)
      all_goals exact g_done (by repeat (first | exact trivial | refine ⟨rfl, ?_⟩)) (List.Sublist.refl _)
    · repeat (first | refine g_op rfl ?_ | refine g_then ?_ | refine g_nil ?_ | refine g_region ?_ | refine g_opS rfl ?_ | refine g_inBlock ?_ | refine g_add rfl (by omega) (by omega) ?_ | refine g_sub rfl (by omega) (by omega) ?_)
      refine g_next (i + 1, (jn : Int) - 1, some ⟨rb, ro, none⟩, (l'.set i y).set jn x) ⟨by simp only; omega, by simp only; omega, by simpa using hl, by rw [← hra]; exact ha, fun k hk => ?_⟩ (by simp only; omega) (by repeat (first | exact trivial | refine ⟨rfl, ?_⟩)) (List.Sublist.refl _)
      have := rev_swap hl (by omega) (by omega) (fun k hk => by
        rw [hall k hk]
        by_cases e : k < i ∨ jn < k
        · rw [if_pos e, if_pos (by omega)]
        · rw [if_neg e, if_neg (by omega)]) hx hy k hk
      rw [this]
      by_cases e : k < i + 1 ∨ jn - 1 < k
      · rw [if_pos e, if_pos (by simp only; omega)]
      · rw [if_neg e, if_neg (by simp only; omega)]
  · have hge : l' = l.reverse := rev_done hl (by simp at h1; omega) hall
    repeat (first | refine g_exit ?_ | refine g_thenExit ?_ | refine g_exitHere ?_)
    refine g_end0 rfl fun w' hw' => ⟨(), rfl, ?_, trivial⟩
    rw [← hge, ← ha]
    exact hw'
end Go.Proofs.YtebajiafdkokjaaDoor

/- dom.Post: what it returns. -/
namespace Go.Proofs.YtebajiafdkokjaaDoor
open Go Go.RowKit
attribute [local irreducible] wpListIn Code.wpIn Exit.then Exit.inBlock bodyPost wpQuiet wpAnyIn
set_option maxHeartbeats 4000000

theorem post_bad (u : LUnit) (hl : light u) (k : Int) (hk : inI k) (hbad : (askedL u k).1 ≠ 0) (g fs : Value) (w0 : World) (hg : SlAt w0 g 3 u.globals GlobalV) (hf : SlAt w0 fs 4 u.funcs FuncV) (hways : CellsAt w0 0 0 waysC) :
    RetV Tryd.prog 27 [.agg #[g, fs], .int .i64 k] w0 (.tuple #[.slice none 0 0, .agg #[.int .i64 (askedL u k).1, .int .i64 (askedL u k).2]]) := by
  have hg0 := hg
  have hf0 := hf
  obtain ⟨ga, gn, gc, gb, go, rfl, _⟩ := hg
  obtain ⟨fa, fn, fc, fb, fo, rfl, _⟩ := hf
  refine ret_enter Tryd.func27 rfl Tryd.ntmps27 rfl (Wd.nil NoS w0) ?_
  repeat (first | refine g_op rfl ?_ | refine g_then ?_ | refine g_nil ?_ | refine g_region ?_ | refine g_seq ?_ | refine g_box rfl fun _ _ => ?_ | refine g_alloc rfl fun _ _ => ?_)
  rename_i p2 _ p5 _
  refine g_callV rfl (fun w hw => func_bad u hl k hk hbad _ _ w (hg0.keep keeps_global hw.chg) (hf0.keep keeps_func hw.chg) (hways.keep hw.chg)) ?_
  unfold zeroFn
  repeat (first | refine g_op rfl ?_ | refine g_then ?_ | refine g_nil ?_ | refine g_region ?_ | refine g_seq ?_ | refine g_alloc rfl fun _ _ => ?_ | refine g_storeAgg ?_)
  rename_i p6 _ p7 _
  refine g_cond (fun h1 => ?_) (fun h1 => ?_)
  · repeat (refine g_seq ?_)
    refine g_drawW [(4, .slice none 0 0), (5, .pointer (some ⟨p5, 0, none⟩))] [Ent.box p5 [.int .i64 (askedL u k).1, .int .i64 (askedL u k).2] 29] mixed ?_ ?_
    · repeat' (first | refine g_any0 (by decide +kernel) ?_ | refine g_any (by decide +kernel) ?_ | refine any_nil | refine any_skip (by decide +kernel) ?_ | refine any_cons ?_ ?_ | refine g_op rfl ?_ | refine g_then ?_ | refine g_nil ?_ | refine g_opS rfl ?_ | refine g_storeAgg ?_)
      all_goals exact g_done (by repeat (first | exact trivial | refine ⟨rfl, ?_⟩)) (by simp)
    · repeat (first | refine g_then ?_ | refine g_ret ?_ | refine g_thenRet ?_)
      exact g_retTC rfl fun _ hw => ⟨rfl, hw.chg⟩
  · exact absurd h1 (by simp [hbad])
/-- a row of numbers, packed -/
theorem Wd.ints {S : Nat → Prop} {w0 w : World} {a : Option Addr} {n c e : Nat} {l : List Int} (h : Wd S w0 [Ent.vec a n c e 1 (l.map (.int .i64))] w) (hn : n = l.length) (hb : n ≤ 100000) (hi : ∀ x ∈ l, inI x) :
    Wd S w0 [⟨fps [Ent.vec a n c e 1 (l.map (.int .i64))], fun w => SlAt w (.slice a n c) 1 l IntV⟩] w := by
  have h1 : Wd S w0 ([Ent.vec a n c e 1 (l.map (.int .i64))] ++ []) w := by rw [List.append_nil]; exact h
  refine h1.pack _ fun w2 hw2 => ?_
  refine hw2.slAt (k := 0) rfl hn (by omega) fun j y hy => ⟨[.int .i64 y], fun k v hk => ?_, rfl, hi y (List.mem_of_getElem? hy)⟩
  match k, hk with
  | 0, hk => simpa [hy] using hk
def BestL (bl : List LBlock) (n : Nat) (l : List Int) : Prop := l.length = n ∧ ∀ i z, l[i]? = some z → Best bl i bl.length z
theorem best_in {bl : List LBlock} {b m : Nat} {z : Int} (h : Best bl b m z) (hm : m ≤ 100) : inI z ∧ (z = -1 ∨ ∃ p : Nat, z = p ∧ p < m) := by
  rcases h with ⟨rfl, _⟩ | ⟨p, hp, rfl, _⟩
  · exact ⟨by simp [inI], .inl rfl⟩
  · exact ⟨by simp only [inI]; omega, .inr ⟨p, rfl, hp⟩⟩
theorem bestL_in {bl : List LBlock} {n : Nat} {l : List Int} (h : BestL bl n l) (hm : bl.length ≤ 100) : ∀ z ∈ l, inI z := fun z hz => by
  obtain ⟨i, hi⟩ := List.getElem?_of_mem hz
  exact (best_in (h.2 i z hi) hm).1
theorem bestL_unique {bl : List LBlock} {n : Nat} {l m : List Int} (h : BestL bl n l) (k : BestL bl n m) : l = m := by
  apply List.ext_getElem?
  intro i
  by_cases hi : i < n
  · have h1 : l[i]? = some (l[i]'(by have := h.1; omega)) := List.getElem?_eq_getElem _
    have h2 : m[i]? = some (m[i]'(by have := k.1; omega)) := List.getElem?_eq_getElem _
    rw [h1, h2, best_unique (h.2 i _ h1) (k.2 i _ h2)]
  · rw [List.getElem?_eq_none (by have := h.1; omega), List.getElem?_eq_none (by have := k.1; omega)]
theorem bestL_add {bl : List LBlock} {l : List Int} {z : Int} (h : BestL bl l.length l) (hz : Best bl l.length bl.length z) : BestL bl (l ++ [z]).length (l ++ [z]) := by
  refine ⟨rfl, fun i y hy => ?_⟩
  by_cases hi : i < l.length
  · rw [List.getElem?_append_left hi] at hy
    exact h.2 i y hy
  · have hlt := (List.getElem?_eq_some_iff.1 hy).1
    simp only [List.length_append, List.length_singleton] at hlt
    have : i = l.length := by omega
    subst this
    simp only [List.getElem?_append_right (Nat.le_refl _), Nat.sub_self, List.getElem?_cons_zero, Option.some.injEq] at hy
    exact hy ▸ hz
def TakeP (bl : List LBlock) (b c : Nat) (z : Int) : Prop := c ≠ b ∧ Sure bl b c ∧ (z < 0 ∨ ∃ p : Nat, z = p ∧ Sure bl c p)
theorem post_ok (u : LUnit) (hl : light u) (k : Nat) (hgood : (askedL u k).1 = 0) (X : LFunc) (hX : u.funcs[k]? = some X) (hok : GoodB X.blocks) (g fs : Value) (w0 : World) (hg : SlAt w0 g 3 u.globals GlobalV) (hf : SlAt w0 fs 4 u.funcs FuncV) (hways : CellsAt w0 0 0 waysC) :
    Ret Tryd.prog 27 [.agg #[g, fs], .int .i64 k] w0 fun v w' => ∃ x : Option Addr × Nat × List Int, v = .tuple #[.slice x.1 X.blocks.length x.2.1, .agg #[.int .i64 0, .int .i64 0]] ∧ Wd NoS w0 [Ent.vec x.1 X.blocks.length x.2.1 3 1 (x.2.2.map (.int .i64))] w' ∧ BestL X.blocks X.blocks.length x.2.2 := by
  classical
  have hg0 := hg
  have hf0 := hf
  obtain ⟨ga, gn, gc, gb, go, rfl, _⟩ := hg
  obtain ⟨fa, fn, fc, fb, fo, rfl, _⟩ := hf
  have hlx := hl.2 X (List.mem_of_getElem? hX)
  have h24 := hlx.1
  obtain ⟨bv, hbv, hfc⟩ := func_ok u hl k hgood _ _ X hX w0 hg0 hf0 hways
  have hbv0 := hbv
  obtain ⟨ba, n, bc, bb, bo', rfl, hn, hnc, hnb, hbc, hba, hel⟩ := hbv
  refine ret_enter Tryd.func27 rfl Tryd.ntmps27 rfl (Wd.nil NoS w0) ?_
  repeat (first | refine g_op rfl ?_ | refine g_then ?_ | refine g_nil ?_ | refine g_region ?_ | refine g_seq ?_ | refine g_box rfl fun _ _ => ?_ | refine g_alloc rfl fun _ _ => ?_)
  rename_i p2 _ p5 _
  refine g_callV rfl (fun w hw => hfc w hw.chg) ?_
  repeat (first | refine g_op rfl ?_ | refine g_then ?_ | refine g_nil ?_ | refine g_region ?_ | refine g_seq ?_ | refine g_alloc rfl fun _ _ => ?_ | refine g_storeAgg ?_ | refine g_skip ?_ | refine g_condF ?_)
  rename_i p6 _ p7 _
  refine g_callE (val := fun x : Nat × (Nat → Prop) × List Nat => .slice (some ⟨x.1, 0, none⟩) X.blocks.length X.blocks.length) (E := fun x => [⟨x.2.1, tabB x.1 X.blocks.length x.2.2 (sureRow X.blocks)⟩]) (φ := fun x => x.2.2.length = X.blocks.length) rfl (fun w hw => sure_c _ _ _ X.blocks _ w (hbv0.keep keeps_block hw.chg) (by omega) hok) fun x hps => ?_
  obtain ⟨po, fp, ps⟩ := x
  simp only at hps
  rw [← hn] at hps ⊢
  simp only [List.cons_append, List.nil_append]
  repeat (first | refine g_op rfl ?_ | refine g_then ?_ | refine g_nil ?_ | refine g_region ?_ | refine g_seq ?_ | refine g_block ?_)
  refine g_nilVec 3 1 ?_
  refine g_loop (fun (x : Option Addr × Nat × List Int) => x.2.2.length ≤ n ∧ BestL X.blocks x.2.2.length x.2.2) (fun x => [(28, .int .i64 x.2.2.length), (27, .int .i64 n), (9, .slice x.1 x.2.2.length x.2.1), (8, .slice (some ⟨po, 0, none⟩) n n), (6, .pointer (some ⟨p6, 0, none⟩)), (7, .pointer (some ⟨p7, 0, none⟩)), (5, .pointer (some ⟨p5, 0, none⟩))])
    (fun x => Ent.vec x.1 x.2.2.length x.2.1 3 1 (x.2.2.map (.int .i64)) :: [⟨fp, tabB po n ps (sureRow X.blocks)⟩, Ent.box p7 [.int .i64 0, .int .i64 0] 29, Ent.box p6 [.string X.name, .int .i64 X.params, .int .i64 X.regs, .slice ba n bc] 35, Ent.box p5 [.int .i64 0, .int .i64 0] 29]) (fun x => n - x.2.2.length) (none, 0, []) ⟨Nat.zero_le _, rfl, by simp⟩ (g_done (by repeat (first | exact trivial | refine ⟨rfl, ?_⟩)) (by simp)) fun x ⟨hi, hbest⟩ => ?_
  obtain ⟨oa, oc, l⟩ := x
  simp only at hi hbest ⊢
  repeat (first | refine g_op rfl ?_ | refine g_then ?_ | refine g_nil ?_ | refine g_region ?_ | refine g_seq ?_)
  refine g_cond (fun h1 => ?_) (fun h1 => ?_)
  · have hlt : l.length < n := by simpa using h1
    repeat (first | refine g_op rfl ?_ | refine g_then ?_ | refine g_nil ?_ | refine g_region ?_ | refine g_seq ?_ | refine g_block ?_ | refine g_skip ?_)
    refine g_loop (fun (x : Nat × Int) => x.1 ≤ n ∧ Best X.blocks l.length x.1 x.2) (fun x => [(34, .int .i64 x.1), (11, .int .i64 x.2), (33, .int .i64 n), (10, .int .i64 l.length), (28, .int .i64 l.length), (27, .int .i64 n), (9, .slice oa l.length oc), (8, .slice (some ⟨po, 0, none⟩) n n), (6, .pointer (some ⟨p6, 0, none⟩)), (7, .pointer (some ⟨p7, 0, none⟩)), (5, .pointer (some ⟨p5, 0, none⟩))]) (fun x => Ent.vec oa l.length oc 3 1 (l.map (.int .i64)) :: [⟨fp, tabB po n ps (sureRow X.blocks)⟩, Ent.box p7 [.int .i64 0, .int .i64 0] 29, Ent.box p6 [.string X.name, .int .i64 X.params, .int .i64 X.regs, .slice ba n bc] 35, Ent.box p5 [.int .i64 0, .int .i64 0] 29]) (fun x => n - x.1) (0, -1) ⟨Nat.zero_le _, best_zero _ _⟩ (g_done (by repeat (first | exact trivial | refine ⟨rfl, ?_⟩)) (List.Sublist.refl _)) fun x ⟨hj, hz⟩ => ?_
    obtain ⟨c, z⟩ := x
    simp only at hj hz ⊢
    have hzi := best_in hz (by omega)
    repeat (first | refine g_op rfl ?_ | refine g_then ?_ | refine g_nil ?_ | refine g_region ?_ | refine g_seq ?_)
    refine g_cond (fun h2 => ?_) (fun h2 => ?_)
    · have hclt : c < n := by simpa using h2
      have rowP : ∀ d e, d < n → e < n → ∃ pd, ps[d]? = some pd ∧ PackCell (tabB po n ps (sureRow X.blocks)) po (0 + d * 1) (.slice (some ⟨pd, 0, none⟩) n n) ∧ PackCell (tabB po n ps (sureRow X.blocks)) pd (0 + e * 1) (.bool (decide (Sure X.blocks d e))) := by
        intro d e hd he
        obtain ⟨pd, hpd⟩ : ∃ pd, ps[d]? = some pd := ⟨_, List.getElem?_eq_getElem (by omega)⟩
        exact ⟨pd, hpd, ⟨fun w hF => by have := (hF d pd hpd).1; simpa [valP] using this⟩, ⟨fun w hF => by have := (hF d pd hpd).2 e _ (sureRow_get (by omega)); simpa using this⟩⟩
      have hll : LtIs l.length n := ⟨hlt⟩
      have hlc : LtIs c n := ⟨hclt⟩
      repeat (first | refine g_op rfl ?_ | refine g_then ?_ | refine g_nil ?_ | refine g_region ?_ | refine g_seq ?_ | refine g_block ?_ | refine g_skip ?_)
      refine g_joinTo 61 (.bool (decide (TakeP X.blocks l.length c z))) ?_ ?_
      · by_cases e1 : c = l.length
        · rw [decide_eq_false (p := TakeP X.blocks l.length c z) (fun h => h.1 e1)]
          skip
          rw [show (!decide ((c : Int) = (l.length : Int))) = false by simp [e1]]
          repeat (first | refine g_op rfl ?_ | refine g_then ?_ | refine g_nil ?_ | refine g_pass rfl ?_ | refine g_passU rfl ?_)
          exact g_done (by repeat (first | exact trivial | refine ⟨rfl, ?_⟩)) (List.Sublist.refl _)
        · obtain ⟨pb, _, hk1, hk2⟩ := rowP l.length c hlt hclt
          by_cases e2 : Sure X.blocks l.length c
          · rw [decide_eq_true e2] at hk2
            by_cases e3 : z < 0
            · rw [decide_eq_true (p := TakeP X.blocks l.length c z) ⟨e1, e2, .inl e3⟩]
              skip
              rw [show (!decide ((c : Int) = (l.length : Int))) = true by simp; omega]
              repeat (first | refine g_op rfl ?_ | refine g_open ?_)
              rw [decide_eq_true e3]
              repeat (first | refine g_op rfl ?_ | refine g_then ?_ | refine g_nil ?_ | refine g_open ?_ | refine g_pass rfl ?_)
              exact g_done (by repeat (first | exact trivial | refine ⟨rfl, ?_⟩)) (List.Sublist.refl _)
            · obtain ⟨p, rfl, hp⟩ : ∃ p : Nat, z = p ∧ p < c := hzi.2.resolve_left (by omega)
              obtain ⟨pc, _, hk3, hk4⟩ := rowP c p hclt (by omega)
              have hlp : LtIs p n := ⟨by omega⟩
              rw [show decide (TakeP X.blocks l.length c (p : Int)) = decide (Sure X.blocks c p) by
                rw [decide_eq_decide]
                constructor
                · rintro ⟨_, _, h | ⟨q, hq, h⟩⟩
                  · omega
                  · have : p = q := by omega
                    exact this ▸ h
                · exact fun h => ⟨e1, e2, .inr ⟨p, rfl, h⟩⟩]
              skip
              rw [show (!decide ((c : Int) = (l.length : Int))) = true by simp; omega]
              repeat (first | refine g_op rfl ?_ | refine g_open ?_)
              rw [decide_eq_false e3]
              repeat (first | refine g_op rfl ?_ | refine g_then ?_ | refine g_nil ?_)
              exact g_done (by repeat (first | exact trivial | refine ⟨rfl, ?_⟩)) (List.Sublist.refl _)
          · rw [decide_eq_false e2] at hk2
            rw [decide_eq_false (p := TakeP X.blocks l.length c z) (fun h => e2 h.2.1)]
            skip
            rw [show (!decide ((c : Int) = (l.length : Int))) = true by simp; omega]
            repeat (first | refine g_op rfl ?_ | refine g_then ?_ | refine g_nil ?_ | refine g_open ?_ | refine g_pass rfl ?_ | refine g_passU rfl ?_)
            exact g_done (by repeat (first | exact trivial | refine ⟨rfl, ?_⟩)) (List.Sublist.refl _)
      generalize ho : decide (TakeP X.blocks l.length c z) = o
      cases o
      · rw [decide_eq_false_iff_not] at ho
        repeat (first | refine g_then ?_ | refine g_nil ?_ | refine g_region ?_ | refine g_opS rfl ?_ | refine g_inBlock ?_ | refine g_skip ?_ | refine g_condF ?_ | refine g_add rfl (by omega) (by omega) ?_)
        refine g_next (c + 1, z) ⟨hclt, best_stay hz ?_⟩ (by simp only; omega) (by repeat (first | exact trivial | refine ⟨rfl, ?_⟩)) (List.Sublist.refl _)
        by_cases e1 : c = l.length
        · exact .inl e1
        · by_cases e2 : Sure X.blocks l.length c
          · refine .inr (.inr ?_)
            rcases hzi.2 with e3 | ⟨p, rfl, _⟩
            · exact absurd ⟨e1, e2, .inl (by omega)⟩ ho
            · exact ⟨p, rfl, fun h => ho ⟨e1, e2, .inr ⟨p, rfl, h⟩⟩⟩
          · exact .inr (.inl e2)
      · rw [decide_eq_true_eq] at ho
        repeat (first | refine g_op rfl ?_ | refine g_then ?_ | refine g_nil ?_ | refine g_region ?_ | refine g_opS rfl ?_ | refine g_inBlock ?_ | refine g_condT ?_ | refine g_add rfl (by omega) (by omega) ?_)
        exact g_next (c + 1, (c : Int)) ⟨hclt, best_take hz ho.1 ho.2.1 ho.2.2⟩ (by simp only; omega) (by repeat (first | exact trivial | refine ⟨rfl, ?_⟩)) (List.Sublist.refl _)
    · have hge : c = n := by have := h2; simp at this; omega
      repeat (first | refine g_op rfl ?_ | refine g_then ?_ | refine g_region ?_ | refine g_exit ?_ | refine g_thenExit ?_ | refine g_exitHere ?_ | refine g_build1 rfl rfl fun _ _ => ?_)
      refine g_append rfl rfl (by omega) (by omega) fun a' c' => ?_
      rw [show l.map (Value.int .i64) ++ [.int .i64 z] = (l ++ [z]).map (.int .i64) by simp, show l.length + 1 = (l ++ [z]).length by simp]
      repeat (first | refine g_then ?_ | refine g_nil ?_ | refine g_region ?_ | refine g_opS rfl ?_ | refine g_inBlock ?_ | refine g_add rfl (by omega) (by omega) ?_)
      refine g_next (a', c', l ++ [z]) ⟨by simp; omega, bestL_add hbest (by rw [← hn, ← hge]; exact hz)⟩ (by simp; omega) ?_ (List.Sublist.cons _ (List.Sublist.refl _))
      simp only [List.length_append, List.length_singleton, Int.natCast_add]
      exact (by repeat (first | exact trivial | refine ⟨rfl, ?_⟩))
  · have hge : l.length = n := by have := h1; simp at this; omega
    repeat (first | refine g_then ?_ | refine g_seq ?_ | refine g_exit ?_ | refine g_thenExit ?_ | refine g_exitHere ?_)
    refine g_drawW [(4, .slice oa l.length oc), (5, .pointer (some ⟨p5, 0, none⟩))] [Ent.vec oa l.length oc 3 1 (l.map (.int .i64)), Ent.box p5 [.int .i64 0, .int .i64 0] 29] mixed ?_ ?_
    · repeat' (first | refine g_any0 (by decide +kernel) ?_ | refine g_any (by decide +kernel) ?_ | refine any_nil | refine any_skip (by decide +kernel) ?_ | refine any_cons ?_ ?_ | refine g_op rfl ?_ | refine g_then ?_ | refine g_nil ?_ | refine g_storeAgg ?_)
      all_goals exact g_done (by repeat (first | exact trivial | refine ⟨rfl, ?_⟩)) (List.Sublist.cons_cons _ (List.Sublist.cons _ (List.Sublist.cons _ (List.Sublist.cons _ (List.Sublist.refl _)))))
    · repeat (first | refine g_then ?_ | refine g_ret ?_)
      refine g_retTC rfl fun w hw => ⟨(oa, oc, l), ?_, ?_, ?_⟩
      · rw [hge]
      · rw [← hge]
        exact hw.sub (List.Sublist.cons_cons _ (List.nil_sublist _))
      · rw [← hge]; exact hbest
end Go.Proofs.YtebajiafdkokjaaDoor

/- graph.OrderOf, graph.Order, turneryref3.Walk and Order; the law GraphOrders, walked. -/
namespace Go.Proofs.YtebajiafdkokjaaDoor
open Go Go.RowKit
attribute [local irreducible] wpListIn Code.wpIn Exit.then Exit.inBlock bodyPost wpQuiet wpAnyIn
set_option maxHeartbeats 4000000

theorem orderOf_c (nm pa re : Value) (bl : List LBlock) (bs : Value) (hbsl : ∃ a n c, bs = .slice a n c) (w0 : World) (hbs : SlAt w0 bs 6 bl BlockV) (hlen : bl.length ≤ 100) (hok : GoodB bl) (hpos : 0 < bl.length) :
    Ret Tryd.prog 48 [.agg #[nm, pa, re, bs]] w0 fun u w' => ∃ x : Option Addr × Nat, u = .slice x.1 (postL bl).length x.2 ∧ Wd NoS w0 [Ent.vec x.1 (postL bl).length x.2 3 1 ((postL bl).reverse.map intN)] w' ∧ True := by
  obtain ⟨ba, n, bc, rfl⟩ := hbsl
  have hl := postL_len hpos
  refine ret_enter Tryd.func48 rfl Tryd.ntmps48 rfl (Wd.nil NoS w0) ?_
  repeat (first | refine g_op rfl ?_ | refine g_then ?_ | refine g_nil ?_ | refine g_region ?_ | refine g_seq ?_ | refine g_box rfl fun _ _ => ?_)
  refine g_callE (val := fun x : Option Addr × Nat => .slice x.1 (postL bl).length x.2) (E := fun x => [Ent.vec x.1 (postL bl).length x.2 3 1 ((postL bl).map intN)]) (φ := fun _ => True) rfl (fun w hw => graphPost_c _ _ _ bl _ w (hbs.keep keeps_block hw.chg) hlen hok hpos) fun x _ => ?_
  obtain ⟨xa, xc⟩ := x
  simp only
  repeat (first | refine g_op rfl ?_ | refine g_then ?_ | refine g_nil ?_ | refine g_region ?_ | refine g_seq ?_)
  refine g_callS (val := fun _ : Unit => .tuple #[]) (E := fun _ => [Ent.vec xa (postL bl).length xc 3 1 ((postL bl).reverse.map intN)]) (φ := fun _ => True) rfl (fun w hw => reverse_c xa xc (postL bl) (by omega) w hw.pre) fun _ _ => ?_
  simp only [List.cons_append, List.nil_append]
  repeat (first | refine g_op rfl ?_ | refine g_then ?_ | refine g_nil ?_ | refine g_region ?_ | refine g_seq ?_ | refine g_opS rfl ?_ | refine g_ret ?_)
  exact g_ret1 rfl fun w hw => ⟨(xa, xc), rfl, hw.sel [0] (by decide), trivial⟩
theorem order_bad (u : LUnit) (hl : light u) (k : Int) (hk : inI k) (hbad : (askedL u k).1 ≠ 0) (g fs : Value) (w0 : World) (hg : SlAt w0 g 3 u.globals GlobalV) (hf : SlAt w0 fs 4 u.funcs FuncV) (hways : CellsAt w0 0 0 waysC) :
    RetV Tryd.prog 21 [.agg #[g, fs], .int .i64 k] w0 (.tuple #[.slice none 0 0, .agg #[.int .i64 (askedL u k).1, .int .i64 (askedL u k).2]]) := by
  have hg0 := hg
  have hf0 := hf
  obtain ⟨ga, gn, gc, gb, go, rfl, _⟩ := hg
  obtain ⟨fa, fn, fc, fb, fo, rfl, _⟩ := hf
  refine ret_enter Tryd.func21 rfl Tryd.ntmps21 rfl (Wd.nil NoS w0) ?_
  repeat (first | refine g_op rfl ?_ | refine g_then ?_ | refine g_nil ?_ | refine g_region ?_ | refine g_seq ?_ | refine g_box rfl fun _ _ => ?_ | refine g_alloc rfl fun _ _ => ?_)
  rename_i p2 _ p5 _
  refine g_callV rfl (fun w hw => func_bad u hl k hk hbad _ _ w (hg0.keep keeps_global hw.chg) (hf0.keep keeps_func hw.chg) (hways.keep hw.chg)) ?_
  unfold zeroFn
  repeat (first | refine g_op rfl ?_ | refine g_then ?_ | refine g_nil ?_ | refine g_region ?_ | refine g_seq ?_ | refine g_alloc rfl fun _ _ => ?_ | refine g_storeAgg ?_)
  rename_i p6 _ p7 _
  refine g_cond (fun h1 => ?_) (fun h1 => ?_)
  · repeat (refine g_seq ?_)
    refine g_drawW [(4, .slice none 0 0), (5, .pointer (some ⟨p5, 0, none⟩))] [Ent.box p5 [.int .i64 (askedL u k).1, .int .i64 (askedL u k).2] 29] mixed ?_ ?_
    · repeat' (first | refine g_any0 (by decide +kernel) ?_ | refine g_any (by decide +kernel) ?_ | refine any_nil | refine any_skip (by decide +kernel) ?_ | refine any_cons ?_ ?_ | refine g_op rfl ?_ | refine g_then ?_ | refine g_nil ?_ | refine g_opS rfl ?_ | refine g_storeAgg ?_)
      all_goals exact g_done (by repeat (first | exact trivial | refine ⟨rfl, ?_⟩)) (by simp)
    · repeat (first | refine g_then ?_ | refine g_ret ?_ | refine g_thenRet ?_)
      exact g_retTC rfl fun _ hw => ⟨rfl, hw.chg⟩
  · exact absurd h1 (by simp [hbad])
theorem order_ok (u : LUnit) (hl : light u) (k : Nat) (hgood : (askedL u k).1 = 0) (X : LFunc) (hX : u.funcs[k]? = some X) (hok : GoodB X.blocks) (hpos : 0 < X.blocks.length) (g fs : Value) (w0 : World) (hg : SlAt w0 g 3 u.globals GlobalV) (hf : SlAt w0 fs 4 u.funcs FuncV) (hways : CellsAt w0 0 0 waysC) :
    Ret Tryd.prog 21 [.agg #[g, fs], .int .i64 k] w0 fun v w' => ∃ x : Option Addr × Nat, v = .tuple #[.slice x.1 (postL X.blocks).length x.2, .agg #[.int .i64 0, .int .i64 0]] ∧ Wd NoS w0 [Ent.vec x.1 (postL X.blocks).length x.2 3 1 ((postL X.blocks).reverse.map intN)] w' ∧ True := by
  classical
  have hg0 := hg
  have hf0 := hf
  obtain ⟨ga, gn, gc, gb, go, rfl, _⟩ := hg
  obtain ⟨fa, fn, fc, fb, fo, rfl, _⟩ := hf
  have hlx := hl.2 X (List.mem_of_getElem? hX)
  have h24 := hlx.1
  obtain ⟨bv, hbv, hfc⟩ := func_ok u hl k hgood _ _ X hX w0 hg0 hf0 hways
  have hbv0 := hbv
  obtain ⟨ba, n, bc, bb, bo', rfl, hn, hnc, hnb, hbc, hba, hel⟩ := hbv
  refine ret_enter Tryd.func21 rfl Tryd.ntmps21 rfl (Wd.nil NoS w0) ?_
  repeat (first | refine g_op rfl ?_ | refine g_then ?_ | refine g_nil ?_ | refine g_region ?_ | refine g_seq ?_ | refine g_box rfl fun _ _ => ?_ | refine g_alloc rfl fun _ _ => ?_)
  rename_i p2 _ p5 _
  refine g_callV rfl (fun w hw => hfc w hw.chg) ?_
  repeat (first | refine g_op rfl ?_ | refine g_then ?_ | refine g_nil ?_ | refine g_region ?_ | refine g_seq ?_ | refine g_alloc rfl fun _ _ => ?_ | refine g_storeAgg ?_ | refine g_skip ?_ | refine g_condF ?_)
  rename_i p6 _ p7 _
  refine g_drawE (fun z : Option Addr × Nat => [(4, .slice z.1 (postL X.blocks).length z.2), (5, .pointer (some ⟨p5, 0, none⟩))]) (fun z => [Ent.vec z.1 (postL X.blocks).length z.2 3 1 ((postL X.blocks).reverse.map intN), Ent.box p5 [.int .i64 0, .int .i64 0] 29]) mixed ?_ fun z => ?_
  · repeat' (first | refine g_any (by decide +kernel) ?_ | refine any_nil | refine any_skip (by decide +kernel) ?_ | refine any_cons ?_ ?_ | refine g_op rfl ?_ | refine g_then ?_ | refine g_nil ?_)
    all_goals
      refine g_callE (val := fun x : Option Addr × Nat => .slice x.1 (postL X.blocks).length x.2) (E := fun x => [Ent.vec x.1 (postL X.blocks).length x.2 3 1 ((postL X.blocks).reverse.map intN)]) (φ := fun _ => True) rfl (fun w hw => orderOf_c _ _ _ X.blocks _ ⟨_, _, _, rfl⟩ w (hbv0.keep keeps_block hw.chg) (by omega) hok hpos) fun x _ => ?_
      obtain ⟨xa, xc⟩ := x
      simp only [List.cons_append, List.nil_append]
      repeat' (first | refine g_any0 (by decide +kernel) ?_ | refine g_any (by decide +kernel) ?_ | refine any_nil | refine any_skip (by decide +kernel) ?_ | refine any_cons ?_ ?_ | refine g_op rfl ?_ | refine g_then ?_ | refine g_nil ?_ | refine g_opS rfl ?_ | refine g_storeAgg ?_)
      all_goals exact g_doneE (xa, xc) (by repeat (first | exact trivial | refine ⟨rfl, ?_⟩)) (by simp)
  · repeat (first | refine g_then ?_ | refine g_ret ?_)
    exact g_retTC rfl fun w hw => ⟨z, rfl, hw.sel [0] (by decide), trivial⟩

/-- the list holds what is marked -/
def Rel (n : Nat) (sn : List Bool) (s : List Nat) : Prop := (∀ x ∈ s, x < n) ∧ ∀ x : Nat, x < n → (sn[x]? = some true ↔ x ∈ s)
theorem Rel.add {n b : Nat} {sn : List Bool} {s : List Nat} (h : Rel n sn s) (hl : sn.length = n) (hb : b < n) : Rel n (sn.set b true) (s ++ [b]) := by
  refine ⟨fun x hx => ?_, fun x hx => ?_⟩
  · rcases List.mem_append.1 hx with hx | hx
    · exact h.1 x hx
    · simp only [List.mem_singleton] at hx; omega
  · rw [List.getElem?_set, List.mem_append, List.mem_singleton]
    by_cases e : b = x
    · subst e
      rw [if_pos rfl, if_pos (by omega)]; simp
    · rw [if_neg e, h.2 x hx]
      exact ⟨.inl, fun h => h.resolve_right fun h => e h.symm⟩
theorem inIs {l : List Nat} (h : ∀ x ∈ l, x ≤ 100000) : ∀ x ∈ l.map (fun x : Nat => (x : Int)), inI x := fun x hx => by
  obtain ⟨y, hy, rfl⟩ := List.mem_map.1 hx
  have := h y hy
  simp only [inI]; omega
theorem map_intN (l : List Nat) : (l.map (fun x : Nat => (x : Int))).map (Value.int .i64) = l.map intN := by rw [List.map_map]; rfl
theorem nilInts (w : World) : SlAt w (.slice none 0 0) 1 (([] : List Nat).map (fun x : Nat => (x : Int))) IntV := ⟨none, 0, 0, 0, 0, rfl, rfl, Nat.le_refl _, by omega, by omega, by simp, by simp⟩
/-- the list of those that were left: as it was handed in, or one of the call's own -/
def leftE (own : Bool) (a : Option Addr) (c : Nat) (l : List Nat) : List Ent := if own then [Ent.vec a l.length c 3 1 (l.map intN)] else []
theorem walk_c (nm pa re : Value) (bl : List LBlock) (ba : Option Addr) (n bc : Nat) (hlen : bl.length ≤ 100) (hok : GoodB bl) :
    ∀ (f b : Nat) (st : List Bool × List Nat) (s : List Nat), st.1.length = n → st.1[b]? = some false → unseen st.1 ≤ f → st.2.length + unseen st.1 ≤ n → s.length + unseen st.1 ≤ n → Rel n st.1 s → (∀ x ∈ st.2, x < n) → ∀ (sa la : Option Addr) (sc lc : Nat) (w : World), SlAt w (.slice ba n bc) 6 bl BlockV →
    SlAt w (.slice sa s.length sc) 1 (s.map fun x : Nat => (x : Int)) IntV → SlAt w (.slice la st.2.length lc) 1 (st.2.map fun x : Nat => (x : Int)) IntV →
    Ret Tryd.prog 49 [.agg #[nm, pa, re, .slice ba n bc], .int .i64 b, .slice sa s.length sc, .slice la st.2.length lc] w fun u w' => ∃ x : List Nat × (Option Addr × Nat) × (Option Addr × Nat), u = .tuple #[.slice x.2.1.1 x.1.length x.2.1.2, .slice x.2.2.1 (dfs bl f b st).2.length x.2.2.2] ∧
      Wd NoS w [Ent.vec x.2.1.1 x.1.length x.2.1.2 3 1 (x.1.map intN), Ent.vec x.2.2.1 (dfs bl f b st).2.length x.2.2.2 3 1 ((dfs bl f b st).2.map intN)] w' ∧ (Rel n (dfs bl f b st).1 x.1 ∧ x.1.length + unseen (dfs bl f b st).1 ≤ n ∧ ∀ y ∈ (dfs bl f b st).2, y < n) := by
  intro f
  induction f with
  | zero => intro b st s _ hb hu; have := unseen_pos hb; omega
  | succ f ih =>
    rintro b ⟨sn0, lf0⟩ s0 hl hb hu hle hles hrel hlf sa la sc lc w hbs hss hls
    simp only at hl hb hu hle hles hrel hlf hls
    have hbs0 := hbs
    obtain ⟨ba, n, bc, bb, bo', hv, hn, hnc, hnb, hbc, hba, hel⟩ := hbs
    simp only [Value.slice.injEq] at hv
    obtain ⟨rfl, rfl, rfl⟩ := hv
    have hus := unseen_set hb
    have hbn : b < n := by have := (List.getElem?_eq_some_iff.1 hb).1; omega
    obtain ⟨B, hB⟩ := get_lt hn hbn
    have had : AddrIs ba bb bo' := ⟨hba (ne_of_get hB)⟩
    have hli : LtIs b n := ⟨hbn⟩
    obtain ⟨cs, hcs, pv', lv, tv, rfl, _, _, hphis, hlist, ht⟩ := hel b B hB
    have ht0 := ht
    obtain ⟨ta, tn, tc, tb, to', rfl, htn, htnc, htnb, htc, hta, htel⟩ := ht
    have hci : CellsIs w bb (bo' + b * 6) _ := ⟨hcs⟩
    have hBok := hok B (List.mem_of_getElem? hB)
    have htn2 : tn ≤ 2 := by rw [htn]; exact hBok.1
    refine ret_enter Tryd.func49 rfl Tryd.ntmps49 rfl (Wd.nil NoS w) ?_
    repeat (first | refine g_op rfl ?_ | refine g_then ?_ | refine g_nil ?_ | refine g_region ?_ | refine g_seq ?_ | refine g_box rfl fun _ _ => ?_)
    rename_i p4 _
    refine g_build0 rfl fun eb _ => ?_
    repeat (refine g_op rfl ?_)
    refine g_appendI rfl (s0.map fun x : Nat => (x : Int)) (fun w hw => hss.keep keeps_int hw.chg) (by omega) (by omega) fun a1 c1 => ?_
    rw [List.nil_append, map_intN, Nat.zero_add]
    repeat (first | refine g_op rfl ?_ | refine g_build1 rfl rfl fun _ _ => ?_)
    refine g_append rfl rfl (by omega) (by omega) fun a2 c2 => ?_
    rw [show s0.map intN ++ [.int .i64 (b : Int)] = (s0 ++ [b]).map intN by simp [intN], show s0.length + 1 = (s0 ++ [b]).length by simp]
    repeat (first | refine g_op rfl ?_ | refine g_then ?_ | refine g_nil ?_ | refine g_region ?_ | refine g_seq ?_ | refine g_opS rfl ?_ | refine g_block ?_ | refine g_sub rfl (by omega) (by omega) ?_)
    refine g_loop (fun (x : Nat × ((List Bool × List Nat) × List Nat) × Bool × (Option Addr × Nat) × (Option Addr × Nat)) => x.1 ≤ tn ∧ x.2.1.1 = (((toOf bl b).reverse.map Int.toNat).take (tn - x.1)).foldl (vstep bl f) (sn0.set b true, lf0) ∧ Rel n x.2.1.1.1 x.2.1.2 ∧ x.2.1.2.length + unseen x.2.1.1.1 ≤ n ∧ (∀ y ∈ x.2.1.1.2, y < n) ∧ (x.2.2.1 = false → x.2.1.1.2 = lf0 ∧ x.2.2.2.2 = (la, lc)))
      (fun x => [(11, .int .i64 ((x.1 : Int) - 1)), (2, .slice x.2.2.2.1.1 x.2.1.2.length x.2.2.2.1.2), (3, .slice x.2.2.2.2.1 x.2.1.1.2.length x.2.2.2.2.2), (10, .slice ta tn tc), (4, .pointer (some ⟨p4, 0, none⟩)), (1, .int .i64 b)])
      (fun x => Ent.vec x.2.2.2.1.1 x.2.1.2.length x.2.2.2.1.2 3 1 (x.2.1.2.map intN) :: Ent.box p4 [nm, pa, re, .slice ba n bc] 35 :: leftE x.2.2.1 x.2.2.2.2.1 x.2.2.2.2.2 x.2.1.1.2) (fun x => x.1) (tn, ((sn0.set b true, lf0), s0 ++ [b]), false, (a2, c2), (la, lc))
      ⟨Nat.le_refl _, by simp, hrel.add hl hbn, by simp only [List.length_append, List.length_singleton]; omega, hlf, fun _ => ⟨rfl, rfl⟩⟩ (g_done (by repeat (first | exact trivial | refine ⟨rfl, ?_⟩)) (List.Sublist.cons _ (List.Sublist.refl _))) fun x ⟨hm, hst, hrel', hsl, hlfn, hown⟩ => ?_
    obtain ⟨m, ⟨⟨sn, lf⟩, s'⟩, own, ⟨sa', sc'⟩, ⟨la', lc'⟩⟩ := x
    simp only at hm hst hrel' hsl hlfn hown ⊢
    have hg := vsteps_grows bl f (sn0.set b true, lf0) (((toOf bl b).reverse.map Int.toNat).take (tn - m))
    rw [← hst] at hg
    have hg1 := hg.1
    have hg3 := hg.2.2.1
    have hg4 := hg.2.2.2
    simp only [List.length_set] at hg1 hg3 hg4
    have hleft : ∀ w', Wd NoS w (Ent.vec sa' s'.length sc' 3 1 (s'.map intN) :: Ent.box p4 [nm, pa, re, .slice ba n bc] 35 :: leftE own la' lc' lf) w' → SlAt w' (.slice la' lf.length lc') 1 (lf.map fun x : Nat => (x : Int)) IntV := by
      intro w' hw'
      cases own
      · obtain ⟨rfl, h2⟩ := hown rfl
        simp only [Prod.mk.injEq] at h2
        obtain ⟨rfl, rfl⟩ := h2
        exact hls.keep keeps_int hw'.chg
      · exact ints_sl hw' (k := 2) rfl rfl (by omega) fun y hy => by have := hlfn y hy; omega
    repeat (first | refine g_op rfl ?_ | refine g_then ?_ | refine g_nil ?_ | refine g_region ?_ | refine g_seq ?_)
    refine g_cond (fun h1 => ?_) (fun h1 => ?_)
    · obtain ⟨m, rfl⟩ : ∃ m', m = m' + 1 := ⟨m - 1, by simp at h1; omega⟩
      rw [show (((m + 1 : Nat) : Int) - 1) = (m : Int) by omega]
      obtain ⟨t, htj⟩ := get_lt htn (show m < tn by omega)
      have htt := hBok.2 t (List.mem_of_getElem? htj)
      obtain ⟨k, hk⟩ : ∃ k : Nat, t = k := ⟨t.toNat, by omega⟩
      have hkn : k < n := by omega
      have had2 : AddrIs ta tb to' := ⟨hta (ne_of_get htj)⟩
      have hli2 : LtIs m tn := ⟨by omega⟩
      obtain ⟨cs2, hcs2, rfl, _⟩ := htel m t htj
      have hci2 : CellsIs w tb (to' + m * 1) _ := ⟨hcs2⟩
      have hstep : (((toOf bl b).reverse.map Int.toNat).take (tn - m)).foldl (vstep bl f) (sn0.set b true, lf0) = vstep bl f (sn, lf) k := by
        rw [show tn - m = (tn - (m + 1)) + 1 by omega, List.take_add_one, List.foldl_append, ← hst]
        have : ((toOf bl b).reverse.map Int.toNat)[tn - (m + 1)]? = some k := by
          rw [List.getElem?_map, toOf_get hB, List.getElem?_reverse (by omega), ← htn, show tn - 1 - (tn - (m + 1)) = m by omega, htj, hk]; rfl
        rw [this]; rfl
      repeat (first | refine g_op rfl ?_ | refine g_then ?_ | refine g_region ?_ | refine g_seq ?_ | refine g_block ?_ | refine g_skip ?_)
      refine g_callV rfl (fun w hw => has_c _ (s'.map (fun x : Nat => (x : Int))) t w (ints_sl hw (k := 0) rfl rfl (by omega) fun y hy => by have := hrel'.1 y hy; omega)) ?_
      rw [show decide (t ∈ s'.map (fun x : Nat => (x : Int))) = decide (k ∈ s') by rw [decide_eq_decide, hk]; exact mem_ints]
      by_cases hks : k ∈ s'
      · rw [decide_eq_true hks]
        have hv : vstep bl f (sn, lf) k = (sn, lf) := by unfold vstep; rw [if_pos (by rw [(hrel'.2 k hkn).2 hks]; rfl)]
        rw [hv] at hstep
        repeat (first | refine g_op rfl ?_ | refine g_then ?_ | refine g_nil ?_ | refine g_region ?_ | refine g_opS rfl ?_ | refine g_inBlock ?_ | refine g_skip ?_ | refine g_condF ?_ | refine g_sub rfl (by omega) (by omega) ?_)
        exact g_next (m, ((sn, lf), s'), own, (sa', sc'), (la', lc')) ⟨by simp only; omega, hstep.symm, hrel', hsl, hlfn, hown⟩ (by simp only; omega) (by repeat (first | exact trivial | refine ⟨rfl, ?_⟩)) (List.Sublist.refl _)
      · rw [decide_eq_false hks]
        have hkf : sn[k]? = some false := by
          obtain ⟨v, hv⟩ : ∃ v, sn[k]? = some v := ⟨_, List.getElem?_eq_getElem (by omega)⟩
          cases v
          · exact hv
          · exact absurd ((hrel'.2 k hkn).1 hv) hks
        have hv : vstep bl f (sn, lf) k = dfs bl f k (sn, lf) := by unfold vstep; rw [if_neg (by rw [hkf]; simp)]
        rw [hv] at hstep
        repeat (first | refine g_op rfl ?_ | refine g_then ?_ | refine g_nil ?_ | refine g_condT ?_)
        refine g_drawE (fun z : { z : List Nat × (Option Addr × Nat) × (Option Addr × Nat) // Rel n (dfs bl f k (sn, lf)).1 z.1 ∧ z.1.length + unseen (dfs bl f k (sn, lf)).1 ≤ n ∧ ∀ y ∈ (dfs bl f k (sn, lf)).2, y < n } => [(11, .int .i64 (m : Int)), (2, .slice z.1.2.1.1 z.1.1.length z.1.2.1.2), (3, .slice z.1.2.2.1 (dfs bl f k (sn, lf)).2.length z.1.2.2.2), (10, .slice ta tn tc), (4, .pointer (some ⟨p4, 0, none⟩)), (1, .int .i64 b)])
          (fun z => [Ent.vec z.1.2.1.1 z.1.1.length z.1.2.1.2 3 1 (z.1.1.map intN), Ent.vec z.1.2.2.1 (dfs bl f k (sn, lf)).2.length z.1.2.2.2 3 1 ((dfs bl f k (sn, lf)).2.map intN), Ent.box p4 [nm, pa, re, .slice ba n bc] 35]) mixed ?_ fun z => ?_
        · repeat' (first | refine g_take 1 rfl (by decide +kernel) ?_ | refine g_take 2 rfl (by decide +kernel) ?_ | refine g_take 3 rfl (by decide +kernel) ?_ | refine g_take 5 rfl (by decide +kernel) ?_ | refine g_take 6 rfl (by decide +kernel) ?_ | refine g_any (by decide +kernel) ?_ | refine any_nil | refine any_skip (by decide +kernel) ?_ | refine any_cons ?_ ?_ | refine g_op rfl ?_ | refine g_then ?_ | refine g_nil ?_)
          all_goals
            rw [hk]
            refine g_callE (val := fun x : List Nat × (Option Addr × Nat) × (Option Addr × Nat) => .tuple #[.slice x.2.1.1 x.1.length x.2.1.2, .slice x.2.2.1 (dfs bl f k (sn, lf)).2.length x.2.2.2]) (E := fun x => [Ent.vec x.2.1.1 x.1.length x.2.1.2 3 1 (x.1.map intN), Ent.vec x.2.2.1 (dfs bl f k (sn, lf)).2.length x.2.2.2 3 1 ((dfs bl f k (sn, lf)).2.map intN)])
              (φ := fun x => Rel n (dfs bl f k (sn, lf)).1 x.1 ∧ x.1.length + unseen (dfs bl f k (sn, lf)).1 ≤ n ∧ ∀ y ∈ (dfs bl f k (sn, lf)).2, y < n) rfl
              (fun w1 hw => ih k (sn, lf) s' (by simp only; omega) hkf (by simp only; omega) (by simp only; omega) hsl hrel' hlfn sa' la' sc' lc' w1 (hbs0.keep keeps_block hw.chg) (ints_sl hw (k := 0) rfl rfl (by omega) fun y hy => by have := hrel'.1 y hy; omega) (hleft w1 hw)) fun x hx => ?_
            obtain ⟨s2, ⟨x1, x2⟩, ⟨y1, y2⟩⟩ := x
            simp only [List.cons_append, List.nil_append] at hx ⊢
            repeat' (first | refine g_take 8 rfl (by decide +kernel) ?_ | refine g_take 9 rfl (by decide +kernel) ?_ | refine g_take 10 rfl (by decide +kernel) ?_ | refine g_any0 (by decide +kernel) ?_ | refine g_any (by decide +kernel) ?_ | refine any_nil | refine any_skip (by decide +kernel) ?_ | refine any_cons ?_ ?_ | refine g_then ?_ | refine g_nil ?_ | refine g_opS rfl ?_)
            all_goals exact g_doneE ⟨(s2, (x1, x2), (y1, y2)), hx⟩ (by repeat (first | exact trivial | refine ⟨rfl, ?_⟩)) (List.Sublist.cons_cons _ (List.Sublist.cons_cons _ (List.Sublist.cons _ (List.Sublist.cons_cons _ (List.nil_sublist _)))))
        · obtain ⟨⟨s2, ⟨x1, x2⟩, ⟨y1, y2⟩⟩, hz1, hz2, hz3⟩ := z
          simp only at hz1 hz2 hz3 ⊢
          repeat (first | refine g_op rfl ?_ | refine g_then ?_ | refine g_nil ?_ | refine g_region ?_ | refine g_opS rfl ?_ | refine g_inBlock ?_ | refine g_sub rfl (by omega) (by omega) ?_)
          refine g_sel [0, 2, 1] (by decide) ?_
          exact g_next (m, (dfs bl f k (sn, lf), s2), true, (x1, x2), (y1, y2)) ⟨by simp only; omega, hstep.symm, hz1, hz2, hz3, by simp⟩ (by simp only; omega) (by repeat (first | exact trivial | refine ⟨rfl, ?_⟩)) (List.Sublist.refl _)
    · have hm0 : m = 0 := by simp at h1; omega
      subst hm0
      rw [Nat.sub_zero, List.take_of_length_le (by rw [List.length_map, List.length_reverse, toOf_get hB]; omega)] at hst
      have hd : dfs bl (f + 1) b (sn0, lf0) = (sn, lf ++ [b]) := by rw [dfs_succ]; simp only; rw [← hst]
      repeat (first | refine g_op rfl ?_ | refine g_then ?_ | refine g_region ?_ | refine g_seq ?_ | refine g_exit ?_ | refine g_thenExit ?_ | refine g_exitHere ?_)
      refine g_build0 rfl fun eb2 _ => ?_
      repeat (refine g_op rfl ?_)
      refine g_appendI rfl (lf.map fun x : Nat => (x : Int)) (fun w' hw' => hleft w' (hw'.sub (List.sublist_cons_self _ _))) (by omega) (by omega) fun a3 c3 => ?_
      rw [List.nil_append, map_intN, Nat.zero_add]
      repeat (first | refine g_op rfl ?_ | refine g_build1 rfl rfl fun _ _ => ?_)
      refine g_append rfl rfl (by omega) (by omega) fun a4 c4 => ?_
      rw [show lf.map intN ++ [.int .i64 (b : Int)] = (lf ++ [b]).map intN by simp [intN], show lf.length + 1 = (lf ++ [b]).length by simp]
      repeat (first | refine g_op rfl ?_ | refine g_then ?_ | refine g_nil ?_ | refine g_ret ?_)
      rw [hd]
      refine g_ret2 rfl fun w' hw' => ⟨(s', (sa', sc'), (a4, c4)), rfl, hw'.sel [2, 1] (by decide), hrel', hsl, fun y hy => ?_⟩
      rcases List.mem_append.1 hy with hy | hy
      · exact hlfn y hy
      · simp only [List.mem_singleton] at hy; omega
theorem refOrder_c (nm pa re : Value) (bl : List LBlock) (bs : Value) (hbsl : ∃ a n c, bs = .slice a n c) (w0 : World) (hbs : SlAt w0 bs 6 bl BlockV) (hlen : bl.length ≤ 100) (hok : GoodB bl) (hpos : 0 < bl.length) :
    Ret Tryd.prog 23 [.agg #[nm, pa, re, bs]] w0 fun u w' => ∃ x : Option Addr × Nat, u = .slice x.1 (postL bl).length x.2 ∧ Wd NoS w0 [Ent.vec x.1 (postL bl).length x.2 3 1 ((postL bl).reverse.map intN)] w' ∧ True := by
  obtain ⟨ba, n, bc, rfl⟩ := hbsl
  have hn : n = bl.length := by
    obtain ⟨_, _, _, _, _, e, h, _⟩ := hbs
    simp only [Value.slice.injEq] at e
    rw [e.2.1]; exact h
  have hl := postL_len hpos
  have hb0 : (List.replicate bl.length false)[0]? = some false := by rw [List.getElem?_replicate, if_pos hpos]
  refine ret_enter Tryd.func23 rfl Tryd.ntmps23 rfl (Wd.nil NoS w0) ?_
  repeat (first | refine g_op rfl ?_ | refine g_then ?_ | refine g_nil ?_ | refine g_region ?_ | refine g_seq ?_ | refine g_box rfl fun _ _ => ?_)
  rename_i p1 _
  refine g_callE (val := fun x : List Nat × (Option Addr × Nat) × (Option Addr × Nat) => .tuple #[.slice x.2.1.1 x.1.length x.2.1.2, .slice x.2.2.1 (postL bl).length x.2.2.2]) (E := fun x => [Ent.vec x.2.1.1 x.1.length x.2.1.2 3 1 (x.1.map intN), Ent.vec x.2.2.1 (postL bl).length x.2.2.2 3 1 ((postL bl).map intN)]) (φ := fun _ => True) rfl
    (fun w hw => (walk_c nm pa re bl ba n bc hlen hok bl.length 0 (List.replicate bl.length false, []) [] (by simp [hn]) hb0 (by rw [unseen_all]; exact Nat.le_refl _) (by rw [unseen_all]; simp [hn]) (by rw [unseen_all]; simp [hn]) ⟨by simp, fun x hx => by rw [List.getElem?_replicate]; simp⟩ (by simp) none none 0 0 w (hbs.keep keeps_block hw.chg) (nilInts w) (nilInts w)).mono fun v w' ⟨x, h1, h2, _⟩ => ⟨x, h1, h2, trivial⟩) fun x _ => ?_
  obtain ⟨s2, ⟨x1, x2⟩, ⟨y1, y2⟩⟩ := x
  simp only [List.cons_append, List.nil_append]
  repeat (first | refine g_op rfl ?_ | refine g_then ?_ | refine g_nil ?_ | refine g_region ?_ | refine g_seq ?_ | refine g_block ?_ | refine g_sub rfl (by omega) (by omega) ?_)
  refine g_nilVec 3 1 ?_
  refine g_sel [0, 2] (by decide) ?_
  refine g_loop (fun (x : Nat × Option Addr × (Option Addr × Nat)) => x.1 ≤ (postL bl).length) (fun x => [(6, .int .i64 ((x.1 : Int) - 1)), (5, .slice x.2.2.1 ((postL bl).reverse.take ((postL bl).length - x.1)).length x.2.2.2), (4, .slice x.2.1 (postL bl).length y2)])
    (fun x => [Ent.vec x.2.2.1 ((postL bl).reverse.take ((postL bl).length - x.1)).length x.2.2.2 3 1 (((postL bl).reverse.take ((postL bl).length - x.1)).map intN), Ent.vec x.2.1 (postL bl).length y2 3 1 ((postL bl).map intN)]) (fun x => x.1) ((postL bl).length, y1, (none, 0)) (Nat.le_refl _) ?_ fun x hm => ?_
  · simp only [Nat.sub_self, List.take_zero, List.length_nil, List.map_nil]
    exact g_done (by repeat (first | exact trivial | refine ⟨rfl, ?_⟩)) (List.Sublist.refl _)
  obtain ⟨m, ya, ⟨oa, oc⟩⟩ := x
  simp only at hm ⊢
  have htl : ((postL bl).reverse.take ((postL bl).length - m)).length = (postL bl).length - m := by rw [List.length_take, List.length_reverse]; omega
  repeat (first | refine g_op rfl ?_ | refine g_then ?_ | refine g_nil ?_ | refine g_region ?_ | refine g_seq ?_)
  refine g_cond (fun h1 => ?_) (fun h1 => ?_)
  · obtain ⟨m, rfl⟩ : ∃ m', m = m' + 1 := ⟨m - 1, by simp at h1; omega⟩
    rw [show (((m + 1 : Nat) : Int) - 1) = (m : Int) by omega]
    refine g_vec 1 rfl (by omega) fun rb ro hra => ?_
    subst hra
    obtain ⟨y, hy⟩ : ∃ y, (postL bl)[m]? = some y := ⟨_, List.getElem?_eq_getElem (by omega)⟩
    have hli : LtIs m (postL bl).length := ⟨by omega⟩
    have hxat : XAt ((postL bl).map intN) (m * 1) (.int .i64 (y : Int)) := ⟨by simp [hy, intN]⟩
    have hst : (postL bl).reverse.take ((postL bl).length - m) = (postL bl).reverse.take ((postL bl).length - (m + 1)) ++ [y] := by
      rw [show (postL bl).length - m = ((postL bl).length - (m + 1)) + 1 by omega, List.take_add_one]
      rw [List.getElem?_reverse (by omega), show (postL bl).length - 1 - ((postL bl).length - (m + 1)) = m by omega, hy]; rfl
    repeat (first | refine g_op rfl ?_ | refine g_then ?_ | refine g_region ?_ | refine g_seq ?_ | refine g_block ?_ | refine g_skip ?_ | refine g_build1 rfl rfl fun _ _ => ?_)
    refine g_append rfl rfl (by omega) (by omega) fun a' c' => ?_
    rw [show ((postL bl).reverse.take ((postL bl).length - (m + 1))).map intN ++ [.int .i64 (y : Int)] = ((postL bl).reverse.take ((postL bl).length - m)).map intN by rw [hst]; simp [intN], show ((postL bl).reverse.take ((postL bl).length - (m + 1))).length + 1 = ((postL bl).reverse.take ((postL bl).length - m)).length by rw [hst]; simp]
    repeat (first | refine g_op rfl ?_ | refine g_then ?_ | refine g_nil ?_ | refine g_region ?_ | refine g_opS rfl ?_ | refine g_inBlock ?_ | refine g_sub rfl (by omega) (by omega) ?_)
    exact g_next (m, some ⟨rb, ro, none⟩, (a', c')) (by simp only; omega) (by simp only; omega) (by repeat (first | exact trivial | refine ⟨rfl, ?_⟩)) (List.Sublist.cons _ (List.Sublist.refl _))
  · have hm0 : m = 0 := by simp at h1; omega
    subst hm0
    rw [Nat.sub_zero, List.take_of_length_le (by rw [List.length_reverse]; omega), List.length_reverse]
    repeat (first | refine g_op rfl ?_ | refine g_then ?_ | refine g_nil ?_ | refine g_region ?_ | refine g_seq ?_ | refine g_exit ?_ | refine g_thenExit ?_ | refine g_exitHere ?_ | refine g_ret ?_)
    exact g_ret1 rfl fun w hw => ⟨(oa, oc), rfl, hw.sel [0] (by decide), trivial⟩
theorem orderLaw_c (u : LUnit) (k : Int) (hk : inI k) (g fs : Value) (w0 : World) (hg : SlAt w0 g 3 u.globals GlobalV) (hf : SlAt w0 fs 4 u.funcs FuncV) (hways : CellsAt w0 0 0 waysC) :
    RetV Tryd.prog 5 [.agg #[g, fs], .int .i64 k] w0 (.bool true) := by
  classical
  have hg0 := hg
  have hf0 := hf
  obtain ⟨ga, gn, gc, gb, go, rfl, _⟩ := hg
  obtain ⟨fa, fn, fc, fb, fo, rfl, hfn, hfnc, hfnb, hfc, hfa, hfel⟩ := hf
  refine ret_enter Tryd.func5 rfl Tryd.ntmps5 rfl (Wd.nil NoS w0) ?_
  repeat (first | refine g_op rfl ?_ | refine g_then ?_ | refine g_nil ?_ | refine g_region ?_ | refine g_seq ?_ | refine g_box rfl fun _ _ => ?_)
  rename_i p2 _
  refine g_callE (val := fun b : Bool => .bool b) (E := fun _ => []) (φ := fun b => b = false → light u) rfl (fun w hw => heavy_c u _ _ w (hf0.keep keeps_func hw.chg) ⟨_, _, _, rfl⟩) fun b hb => ?_
  simp only [List.nil_append]
  cases b
  case true =>
    repeat (first | refine g_then ?_ | refine g_nil ?_ | refine g_region ?_ | refine g_seq ?_ | refine g_opS rfl ?_ | refine g_condT ?_ | refine g_ret ?_ | refine g_thenRet ?_)
    exact g_retV rfl rfl
  have hl := hb rfl
  repeat (first | refine g_op rfl ?_ | refine g_then ?_ | refine g_nil ?_ | refine g_region ?_ | refine g_seq ?_ | refine g_skip ?_ | refine g_condF ?_)
  by_cases hbad : (askedL u k).1 ≠ 0
  · refine g_callV rfl (fun w hw => order_bad u hl k hk hbad _ _ w (hg0.keep keeps_global hw.chg) (hf0.keep keeps_func hw.chg) (hways.keep hw.chg)) ?_
    repeat (first | refine g_op rfl ?_ | refine g_then ?_ | refine g_nil ?_ | refine g_region ?_ | refine g_seq ?_ | refine g_alloc rfl fun _ _ => ?_ | refine g_storeAgg ?_)
    refine g_callV rfl (fun w hw => asked_c u hl k _ _ w (hg0.keep keeps_global hw.chg) (hf0.keep keeps_func hw.chg) (hways.keep hw.chg)) ?_
    repeat (first | refine g_op rfl ?_ | refine g_then ?_ | refine g_nil ?_ | refine g_region ?_ | refine g_seq ?_ | refine g_alloc rfl fun _ _ => ?_ | refine g_storeAgg ?_)
    refine g_cond (fun h1 => ?_) (fun h1 => ?_)
    · repeat (first | refine g_op rfl ?_ | refine g_region ?_ | refine g_seq ?_)
      rw [show (decide ((askedL u k).1 = (askedL u k).1) && decide ((askedL u k).2 = (askedL u k).2)) = true by simp]
      repeat (first | refine g_op rfl ?_ | refine g_then ?_ | refine g_nil ?_ | refine g_opS rfl ?_ | refine g_open ?_ | refine g_ret ?_ | refine g_thenRet ?_)
      exact g_retV rfl rfl
    · exact absurd h1 (by simp [hbad])
  have hgood : (askedL u k).1 = 0 := by simpa using hbad
  obtain ⟨hch, has, i, X, rfl, hX, hok⟩ := asked_ok hgood
  have hpos := check_pos hch hX
  have hil : i < fn := by rw [hfn]; exact (List.getElem?_eq_some_iff.1 hX).1
  have had : AddrIs fa fb fo := ⟨hfa (ne_of_get hX)⟩
  have hli : LtIs i fn := ⟨hil⟩
  obtain ⟨cs, hcs, bv, rfl, hpi, hri, hbv⟩ := hfel i X hX
  have hci : CellsIs w0 fb (fo + i * 4) _ := ⟨hcs⟩
  have hbv0 := hbv
  obtain ⟨ba, bn, bc, _, _, rfl, hbn, _⟩ := hbv
  have h24 := (hl.2 X (List.mem_of_getElem? hX)).1
  have hpl := postL_len hpos
  have hin := inIs (l := (postL X.blocks).reverse) fun y hy => by have := postL_lt hok hpos (List.mem_reverse.1 hy); omega
  refine g_callE (val := fun x : Option Addr × Nat × (Nat → Prop) => .tuple #[.slice x.1 (postL X.blocks).length x.2.1, .agg #[.int .i64 0, .int .i64 0]]) (E := fun x => [⟨x.2.2, fun w => SlAt w (.slice x.1 (postL X.blocks).length x.2.1) 1 ((postL X.blocks).reverse.map fun x : Nat => (x : Int)) IntV⟩]) (φ := fun _ => True) rfl (fun w hw =>
    (order_ok u hl i hgood X hX hok hpos _ _ w (hg0.keep keeps_global hw.chg) (hf0.keep keeps_func hw.chg) (hways.keep hw.chg)).mono fun v w' ⟨x, h1, h2, _⟩ => ⟨(x.1, x.2, _), h1, Wd.ints (by rw [map_intN]; exact h2) (by simp) (by omega) hin, trivial⟩) fun x _ => ?_
  obtain ⟨ra, rc, rp⟩ := x
  simp only [List.cons_append, List.nil_append]
  repeat (first | refine g_op rfl ?_ | refine g_then ?_ | refine g_nil ?_ | refine g_region ?_ | refine g_seq ?_ | refine g_alloc rfl fun _ _ => ?_ | refine g_storeAgg ?_)
  rename_i p6 _
  refine g_callV rfl (fun w hw => asked_c u hl i _ _ w (hg0.keep keeps_global hw.chg) (hf0.keep keeps_func hw.chg) (hways.keep hw.chg)) ?_
  rw [has]
  repeat (first | refine g_op rfl ?_ | refine g_then ?_ | refine g_nil ?_ | refine g_region ?_ | refine g_seq ?_ | refine g_open ?_ | refine g_alloc rfl fun _ _ => ?_ | refine g_storeAgg ?_ | refine g_skip ?_ | refine g_condF ?_)
  rename_i p7 _
  refine g_callE (val := fun x : Option Addr × Nat × (Nat → Prop) => .slice x.1 (postL X.blocks).length x.2.1) (E := fun x => [⟨x.2.2, fun w => SlAt w (.slice x.1 (postL X.blocks).length x.2.1) 1 ((postL X.blocks).reverse.map fun x : Nat => (x : Int)) IntV⟩]) (φ := fun _ => True) rfl (fun w hw =>
    (refOrder_c _ _ _ X.blocks _ ⟨_, _, _, rfl⟩ w (hbv0.keep keeps_block hw.chg) (by omega) hok hpos).mono fun v w' ⟨x, h1, h2, _⟩ => ⟨(x.1, x.2, _), h1, Wd.ints (by rw [map_intN]; exact h2) (by simp) (by omega) hin, trivial⟩) fun y _ => ?_
  obtain ⟨sa, sc, sp⟩ := y
  simp only [List.cons_append, List.nil_append]
  refine g_open ?_
  refine g_callV rfl (fun w hw => ints_c _ _ ((postL X.blocks).reverse.map fun x : Nat => (x : Int)) ((postL X.blocks).reverse.map fun x : Nat => (x : Int)) w ?_ ?_) ?_
  · exact hw.get (k := 3) rfl
  · exact hw.get (k := 0) rfl
  rw [show decide ((postL X.blocks).reverse.map (fun x : Nat => (x : Int)) = (postL X.blocks).reverse.map (fun x : Nat => (x : Int))) = true by simp]
  try simp only [decide_true, Bool.and_self]
  repeat (first | refine g_op rfl ?_ | refine g_then ?_ | refine g_nil ?_ | refine g_opS rfl ?_ | refine g_ret ?_)
  exact g_retV rfl rfl
end Go.Proofs.YtebajiafdkokjaaDoor

/- More rules: a range whose loop variable lies in a box; loops in which marks pile up; append of what can be read; slices against nil. -/
namespace Go.Proofs.YtebajiafdkokjaaDoor
open Go Go.RowKit

theorem flat_one {α : Type} (f : α → Value) : ∀ l : List α, l.flatMap (fun x => [f x]) = l.map f
  | [] => rfl
  | x :: l => by rw [List.flatMap_cons, flat_one f l]; rfl
theorem flat_len {α : Type} {g : α → List Value} {s : Nat} (h : ∀ x, (g x).length = s) : ∀ l : List α, (l.flatMap g).length = l.length * s
  | [] => by simp
  | x :: l => by rw [List.flatMap_cons, List.length_append, h, flat_len h l, List.length_cons, Nat.add_mul]; omega
theorem flat_at {α : Type} {g : α → List Value} {s : Nat} (h : ∀ x, (g x).length = s) : ∀ (l : List α) (i : Nat) (x : α) (j : Nat) (v : Value), l[i]? = some x → (g x)[j]? = some v → (l.flatMap g)[i * s + j]? = some v
  | [], i, x, j, v, hi, _ => by simp at hi
  | y :: l, 0, x, j, v, hi, hj => by
    simp only [List.getElem?_cons_zero, Option.some.injEq] at hi
    subst hi
    rw [List.flatMap_cons, List.getElem?_append_left (by have := (List.getElem?_eq_some_iff.1 hj).1; omega)]
    simpa using hj
  | y :: l, i + 1, x, j, v, hi, hj => by
    rw [List.flatMap_cons, List.getElem?_append_right (by rw [h, Nat.add_mul]; omega), h, show (i + 1) * s + j - s = i * s + j by rw [Nat.add_mul]; omega]
    exact flat_at h l i x j v (by simpa using hi) hj
theorem flat_from {α : Type} {g : α → List Value} {s : Nat} (h : ∀ x, (g x).length = s) : ∀ (l : List α) (k : Nat) (v : Value), (l.flatMap g)[k]? = some v → ∃ i x j, l[i]? = some x ∧ (g x)[j]? = some v ∧ k = i * s + j
  | [], k, v, hk => by simp at hk
  | y :: l, k, v, hk => by
    rw [List.flatMap_cons] at hk
    by_cases hlt : k < (g y).length
    · rw [List.getElem?_append_left hlt] at hk
      exact ⟨0, y, k, rfl, hk, by omega⟩
    · rw [List.getElem?_append_right (by omega), h] at hk
      obtain ⟨i, x, j, h1, h2, h3⟩ := flat_from h l _ v hk
      rw [h] at hlt
      exact ⟨i + 1, x, j, by simpa using h1, h2, by rw [Nat.add_mul]; omega⟩

section
variable {P : Program} {ro : Option Nat} {N : Nat} {ds : List Deferred} {S : Nat → Prop} {w0 : World} {L L' : List (Nat × Value)} {H H' : List Ent} {a : Act} {w : World}
  {ops : Array Oper} {rest : List Oper} {Q : Exit → Act → World → Prop} {p : Act → World → Prop} {x y : Operand}

instance {T e s by' : Nat} {zs : List Value} [h : ElemInfo P T e s by' zs] (ad : Option Addr) (n c : Nat) : EqVal P T (.slice ad n c) (.slice none 0 0) ad.isNone :=
  ⟨fun op _ _ w => by unfold eqGuard; split <;> simp, fun w => by simp [binOp, run_equal_slice_nil w T e ad n c h.und], fun w => run_neq_slice_nil w T e ad n c h.und⟩

/-- 'append(x, y...)' of elements that can be read -/
theorem g_appendF {α : Type} {d ty T e s by' : Nat} {zs : List Value} {pos : String} {aft : Array Go.Edge} {ad a2 : Option Addr} {n c m c2 k : Nat} {xs : List Value} [h : ElemInfo P T e s by' zs] [hx : Ev L x (.slice ad n c)] [hy : Ev L y (.slice a2 m c2)]
    [hv : VecIn H ad n c k e s xs] (hd : okPut d N L = true) (hs : (Nat.blt 0 s && Nat.beq zs.length s) = true) (l : List α) {V : World → α → List Value → Prop} (g : α → List Value) (hg : ∀ w x cs, V w x cs → cs = g x) (hlen : ∀ x, (g x).length = s) (hone : ∀ x, ∀ u ∈ g x, u.oneCell' = true)
    (hsl : ∀ w, Wd S w0 H w → SlAt w (.slice a2 m c2) s l V) (hbytes : (n + m) * by' ≤ 140737488355328) (h63 : n + m ≤ 140737488355328)
    {F : Ent → List Ent} [hF : SetFn H k F] (kk : ∀ a' c', G N ds S w0 ((d, .slice a' (n + m) c') :: L) (F (Ent.vec a' (n + m) c' e s (xs ++ l.flatMap g))) (wpListIn (FW ro) 0 P ops Q rest)) : G N ds S w0 L H (wpListIn (FW ro) 0 P ops Q (⟨some d, .call { callee := .builtin .append, args := #[x, y], argTypes := #[T, T] }, ty, pos, aft, none⟩ :: rest)) := by
  intro a w hS
  simp only [Bool.and_eq_true, Nat.blt_eq] at hs
  obtain ⟨a2', m', c2', b, o, hval, hm, hmc, _, _, ha, hel⟩ := hsl w hS.wd
  simp only [Value.slice.injEq] at hval
  obtain ⟨rfl, rfl, rfl⟩ := hval
  by_cases h0 : m = 0
  · subst h0
    have hl : l = [] := List.eq_nil_of_length_eq_zero hm.symm
    subst hl
    obtain ⟨i, zz, hi, _, _, _, _⟩ := h.get
    have hnc : n ≤ c := by
      obtain ⟨_, h2⟩ := hS.wd.get hv.at'
      rcases h2 with ⟨_, h2, h3⟩ | ⟨_, _, _, _, h3, _⟩ <;> omega
    have hr : (Builtin.append_ #[T, T] ty #[.slice ad n c, .slice a2 0 c2]).run P w = .ok (.slice ad n c) w := by
      cases ad <;> cases a2 <;> simp [Builtin.append_, run_underlying h.und, sizeOf, typeInfo, hi, Builtin.lenOf, Builtin.firstCells, hnc, storeCells, loadCells, loadCellsFrom]
    refine step_val (v := .slice ad n c) (w' := w) rfl (fun _ h => by cases h) ?_ ?_
    · simp [execOp, resolve, invoke, builtin, hx.eq _ _ _ hS.fr, hy.eq _ _ _ hS.fr, hr]
    · have := kk ad c
      simp only [List.flatMap_nil, List.append_nil, Nat.add_zero] at this
      rw [← hF.eq, set_self hv.at'] at this
      exact this _ _ ⟨hS.fr.putOk hd _, hS.wd⟩
  · have hne : l ≠ [] := by rintro rfl; simp at hm; exact h0 hm
    have ha := ha hne
    subst ha
    obtain ⟨a', c', w', hr, hw'⟩ := hS.wd.append (P := P) (ty := ty) (c2 := c2) (a2 := ⟨b, o, none⟩) (m := m) (news := l.flatMap g) h hs.1 hv.at' (by omega) (by rw [flat_len hlen, hm]) (fun j u hj => by
      obtain ⟨i, q, j', h1, h2, rfl⟩ := flat_from hlen l j u hj
      obtain ⟨cs, hc, hV⟩ := hel i q h1
      rw [hg _ _ _ hV] at hc
      have := hc j' u h2
      rw [Addr.add_lit, ← Nat.add_assoc]
      exact this) (fun u hu => by obtain ⟨q, _, hq⟩ := List.mem_flatMap.1 hu; exact hone q u hq) hbytes h63 (Nat.eq_of_beq_eq_true hs.2)
    refine step_val (v := .slice a' (n + m) c') (w' := w') rfl (fun _ h => by cases h) ?_ ?_
    · simp [execOp, resolve, invoke, builtin, hx.eq _ _ _ hS.fr, hy.eq _ _ _ hS.fr, hr]
    · rw [hF.eq] at hw'
      exact kk a' c' _ _ ⟨hS.fr.putOk hd _, hw'⟩

/-! ### Marks that pile up -/
def marks (Ds : List Nat) : List Ent := Ds.map Ent.mark
def dsOf (Ds : List Nat) : List Deferred := Ds.map fun D => ⟨.collected D, #[]⟩
def NextD {α : Type} (N : Nat) (dx : α → List Deferred) (S : Nat → Prop) (w0 : World) (I : α → Prop) (Lx : α → List (Nat × Value)) (Hx : α → List Ent) (m : α → Nat) (x : α) : Act → World → Prop :=
  fun a w => ∃ x', (I x' ∧ St N (dx x') S w0 (Lx x') (Hx x') a w) ∧ m x' < m x
/-- a loop in which deferred marks pile up -/
theorem g_loopD {α : Type} (dx : α → List Deferred) (I : α → Prop) (Lx : α → List (Nat × Value)) (Hx : α → List Ent) (m : α → Nat) {c : Code} (x : α) (hds : dx x = ds) (hI : I x) (h0 : G N ds S w0 L H (St N ds S w0 (Lx x) (Hx x)))
    (round : ∀ x, I x → G N (dx x) S w0 (Lx x) (Hx x) (Code.wpIn (FW ro) 0 P c (Exit.then (NextD N dx S w0 I Lx Hx m x) Q))) : G N ds S w0 L H (Code.wpIn (FW ro) 0 P (Code.loop c) Q) :=
  fun a w hS => c_loop (fun x a w => I x ∧ St N (dx x) S w0 (Lx x) (Hx x) a w) m x ⟨hI, by rw [hds]; exact h0 a w hS⟩ fun x a w h => round x h.1 a w h.2
theorem g_nextD {α : Type} {dx : α → List Deferred} {I : α → Prop} {Lx : α → List (Nat × Value)} {Hx : α → List Ent} {m : α → Nat} {x : α} (x' : α) (hds : dx x' = ds) (hI : I x') (hm : m x' < m x) (hL : allIn L (Lx x')) (hH : (Hx x').Sublist H) : G N ds S w0 L H (NextD N dx S w0 I Lx Hx m x) :=
  fun _ _ hS => ⟨x', ⟨hI, by rw [hds]; exact hS.fix hL hH⟩, hm⟩
theorem leaves_marks {fn : Func} {tmps : Array Value} {R : Value → World → Prop} {v : Value} (hr : ∀ w, (results fn tmps).run P w = .ok v w) (hR : ∀ w, Wd NoS w0 H w → R v w) : ∀ (Ds : List Nat) (w : World), Wd NoS w0 (marks Ds ++ H) w →
    LeavesInM (FW none) 0 P fn tmps (fun e w' => ∃ v, e = .returned v ∧ R v w') (dsOf Ds) .returning w
  | [], w, hW => ⟨v, hr w, v, rfl, hR w hW⟩
  | D :: Ds, w, hW => by
    have h1 : Wd NoS w0 (Ent.mark D :: (marks Ds ++ H)) w := hW
    have hD : w0.heap.size ≤ D := (h1.own (Ent.mark D) (by simp) D rfl).1.elim (fun h => h.elim) id
    exact ⟨by simp, .inl ⟨D, _, rfl, run_takeDeferred (h1.get (k := 0) rfl), leaves_marks hr hR Ds _ (h1.shut hD _)⟩⟩
theorem g_retMs2 {fn : Func} {R : Value → World → Prop} {Ds : List Nat} {s t : Nat} {v u : Value} (hr : fn.results = #[.tmp s, .tmp t]) [hv : SlotIs L s v] [hu : SlotIs L t u] (hR : ∀ w, Wd NoS w0 H w → R (.tuple #[v, u]) w) : G N (dsOf Ds) NoS w0 L (marks Ds ++ H) (bodyPostM (FW none) 0 P fn (fun e w' => ∃ v, e = .returned v ∧ R v w') .ret) := fun a w hS => by
  show LeavesInM _ _ _ _ _ _ _ _ _
  rw [hS.fr.defers]
  exact leaves_marks (fun w => by rw [results_tmp2 hr]; simp [Array.getD_eq_getD_getElem?, hS.fr.slot _ hv.mem, hS.fr.slot _ hu.mem]) hR Ds w hS.wd
theorem g_retMs1 {fn : Func} {R : Value → World → Prop} {Ds : List Nat} {t : Nat} {v : Value} (hr : fn.results = #[.tmp t]) [hv : SlotIs L t v] (hR : ∀ w, Wd NoS w0 H w → R v w) : G N (dsOf Ds) NoS w0 L (marks Ds ++ H) (bodyPostM (FW none) 0 P fn (fun e w' => ∃ v, e = .returned v ∧ R v w') .ret) := fun a w hS => by
  show LeavesInM _ _ _ _ _ _ _ _ _
  rw [hS.fr.defers]
  exact leaves_marks (fun w => by rw [results_tmp hr]; simp [Array.getD_eq_getD_getElem?, hS.fr.slot _ hv.mem]) hR Ds w hS.wd

/-! ### A range whose loop variable lies in a box -/
/-- what keeps all cells but those of these blocks -/
def KeepX (own : Nat → Prop) (W W' : World) : Prop := ∀ b cs t z, ¬ own b → W.heap[b]? = some (.cells cs t z) → W'.heap[b]? = some (.cells cs t z)
theorem KeepX.refl (own : Nat → Prop) (W : World) : KeepX own W W := fun _ _ _ _ _ h => h
theorem KeepX.trans {own : Nat → Prop} {A B C : World} (h : KeepX own A B) (k : KeepX own B C) : KeepX own A C := fun b cs t z hb hc => k b cs t z hb (h b cs t z hb hc)
theorem cell_block {W : World} {p : Addr} {v : Value} (h : W.cell? p = some v) : ∃ cs t z, W.heap[p.block]? = some (.cells cs t z) := by
  unfold World.cell? at h
  revert h
  cases W.heap[p.block]? with
  | none => intro h; simp at h
  | some o => cases o <;> intro h <;> first | exact ⟨_, _, _, rfl⟩ | simp at h
theorem KeepX.cell {own : Nat → Prop} {A B : World} (h : KeepX own A B) {p : Addr} {v : Value} (hp : ¬ own p.block) (hc : A.cell? p = some v) : B.cell? p = some v := by
  obtain ⟨cs, t, z, hb⟩ := cell_block hc
  have := h _ _ _ _ hp hb
  rw [← hc]
  exact World.cell?_of_block (this.trans hb.symm)
theorem g_doneP {Lp : Nat → List (Nat × Value)} {Hp : Nat → List Ent} (q : Nat) (hL : allIn L (Lp q)) (hH : (Hp q).Sublist H) : G N ds S w0 L H (fun a w => ∃ q, St N ds S w0 (Lp q) (Hp q) a w) := fun _ _ hS => ⟨q, hS.fix hL hH⟩
theorem g_rangeB {α σ : Type} {g : Operand} {ps : Array Tmp} {assign body : Code} {gf : Nat} {lb : List Value} [hg : Ev L g (.func (.func gf) #[] lb.toArray)] [eg : EnterOk P gf] (F : List Ent) (Hc : σ → List Ent) (s0 : σ) (hcl : ∀ s, CellsL (Hc s)) (hfp : ∀ s s' b, fps (Hc s) b → fps (Hc s') b) (xs : List α) {encs : α → Array Value}
    {Bs : Nat} {bcs : List Value} {bt : TypeId} (hBs : Ent.box Bs bcs bt ∈ F)
    (hseq : ∀ w, Wd NoS w0 H w → SeqStopsK (FW none) 4 P gf lb.toArray encs (KeepX fun b => fps (Hc s0 ++ F) b ∧ b ≠ Bs) (fun ys => ys = xs) (fun pre => pre <+: xs) xs.length w)
    (I : List α → σ → Prop) (h0 : I [] s0) (hH : (Hc s0 ++ F).Sublist H) (hps : ∀ x, (encs x).size = ps.size) (bx : α → List Value) (T : Nat)
    (L0 : α → List (Nat × Value)) (La : α → Nat → List (Nat × Value)) (hput : ∀ x a, Fr N ds L a → Fr N [] (L0 x) { tmps := (ps.zip (encs x)).foldl (fun t (p, v) => t.setIfInBounds p v) a.tmps, defers := [] })
    (hassign : ∀ (l : Nat) (x : α) (s : σ) (R : Ent), G N [] NoS w0 (L0 x) (R :: (Hc s ++ F)) (assign.wpIn (FW (some l)) 0 P (Exit.then (fun a w => ∃ q, St N [] NoS w0 (La x q) (Ent.box q (bx x) T :: R :: (Hc s ++ F)) a w) (fun _ _ _ => False))))
    (hbody : ∀ (l : Nat) (pre : List α) (x : α) (s : σ) (q : Nat) (R : Ent), I pre s → pre.length < xs.length → G N [] NoS w0 (La x q) (R :: Ent.box q (bx x) T :: (Hc s ++ F)) (body.wpIn (FW (some l)) 0 P (Exit.then (Rnd NoS w0 (I (pre ++ [x])) R Hc (Ent.box q (bx x) T :: F)) (fun _ _ _ => False))))
    (k : ∀ D s, w0.heap.size ≤ D → I xs s → G N (⟨.collected D, #[]⟩ :: ds) NoS w0 L (Ent.mark D :: (Hc s ++ F)) (Q .normal)) : G N ds NoS w0 L H (Code.wpIn (FW none) 0 P (Code.rangeFunc g ps assign body) Q) := fun a w hS => by
  have hsz := hS.wd.size
  have hF : ∀ e ∈ F, ∀ b, e.fp b → b < w.heap.size := fun e he b hb => (hS.wd.own e (hH.subset (List.mem_append_right _ he)) b hb).2
  have hcell : ∀ s W, Wd NoS w0 (Hc s ++ F) W → ∀ r o, W.heap[r]? = some o → o.isCells = false → w.heap.size ≤ r → ¬ fps (Hc s ++ F) r := by
    rintro s W hW r o ho hn hle ⟨e, he, hb⟩
    rcases List.mem_append.1 he with he | he
    · obtain ⟨j, hj⟩ := List.getElem?_of_mem (List.mem_append_left F he)
      obtain ⟨cs, t, z, hc⟩ := ((hcl s).all e he).ok W (hW.get hj) r hb
      rw [hc] at ho
      cases ho
      cases hn
    · have := hF e he r hb; omega
  have hbox : ∀ s W, Wd NoS w0 (Hc s ++ F) W → W.heap[Bs]? = some (.cells bcs.toArray bt (0, 0)) := fun s W hW => by
    obtain ⟨j, hj⟩ := List.getElem?_of_mem (List.mem_append_right (Hc s) hBs)
    exact hW.get hj
  have hfpF : ∀ s s' b, fps (Hc s ++ F) b → fps (Hc s' ++ F) b := by
    rintro s s' b ⟨e, he, hb⟩
    rcases List.mem_append.1 he with he | he
    · obtain ⟨e', he', hb'⟩ := hfp s s' b ⟨e, he, hb⟩
      exact ⟨e', List.mem_append_left _ he', hb'⟩
    · exact ⟨e, List.mem_append_right _ he, hb⟩
  have hout : ∀ s s' (H0 : List Ent) W W', Wd NoS w0 (Hc s ++ F) W → (∀ r o, W.heap[r]? = some o → o.isCells = false → w.heap.size ≤ r → ¬ fps H0 r) → Wd NoS w0 (Ent.rest (restOf w0.heap.size W H0) W :: (Hc s' ++ F)) W' → (∀ b, fps H0 b → ¬ fps (Hc s0 ++ F) b → W'.heap[b]? = W.heap[b]?) → KeepsFrom w.heap.size W W' ∧ KeepX (fun b => fps (Hc s0 ++ F) b ∧ b ≠ Bs) W W' := by
    intro s s' H0 W W' hW hc0 hW' hx
    obtain ⟨hs, hr⟩ := hW'.get (k := 0) rfl
    refine ⟨⟨hs, fun j o hj ho hn => ?_⟩, fun b cs t z hb hc => ?_⟩
    · exact (hr j ⟨by omega, (Array.getElem?_eq_some_iff.1 ho).1, hc0 j o ho hn hj⟩).trans ho
    · by_cases e : b = Bs
      · subst e
        exact (hbox s' W' (hW'.sub (List.sublist_cons_self _ _))).trans ((hbox s W hW).symm.trans hc)
      · have hnf : ¬ fps (Hc s0 ++ F) b := fun h => hb ⟨h, e⟩
        by_cases hlt : b < w0.heap.size
        · exact ((hW'.chg.block b hlt fun h => h).trans (hW.chg.block b hlt fun h => h).symm).trans hc
        · by_cases h0 : fps H0 b
          · exact (hx b h0 hnf).trans hc
          · exact (hr b ⟨by omega, (Array.getElem?_eq_some_iff.1 hc).1, h0⟩).trans hc
  refine wpIn_deep (m := 5) ?_
  refine wpIn_rangeFunc_ownH (F := FW none) (n := 5) (w0 := w) rfl (by omega) (hg.eq _ _ _ hS.fr) trivial (fun args w => eg.run args w) (hseq w hS.wd) (fun h1 h2 => h1.trans h2) (fun W l o o' hl ho hn _ b cs t z _ hc => ?_) (Below.refl _ _) hps
    (fun pre W => ∃ s, I pre s ∧ Wd NoS w0 (Hc s ++ F) W ∧ w.heap.size ≤ W.heap.size) (fun _ _ _ => False) (fun pre W W' row ⟨s, hI, hW, hsW⟩ hg hr => ⟨s, hI, hW.grown hg fun r e => ?_, Nat.le_trans hsW hg.size⟩) (fun _ _ _ _ _ h => h.elim) ⟨s0, h0, hS.wd.sub hH, Nat.le_refl _⟩
    (fun x a' W => ∃ q, Fr N [] (La x q) a' ∧ W.heap[q]? = some (.cells (bx x).toArray T (0, 0)) ∧ w.heap.size ≤ q ∧ ∀ s, ¬ fps (Hc s ++ F) q) (fun x a' _ W W' row ⟨q, h1, h2, h3, h4⟩ hg hr => ⟨q, h1, ?_, h3, h4⟩) ?_ ?_ ?_ ?_
  · refine (World.putObj_heap_other fun e => ?_).trans hc
    subst e
    rw [hc] at ho
    cases ho
    cases hn
  · obtain ⟨h1, o, ho, hn⟩ := hr r e
    exact ⟨by omega, hcell s W hW r o ho hn h1⟩
  · refine (hg.block q (Array.getElem?_eq_some_iff.1 h2).1 fun e => ?_).trans h2
    obtain ⟨_, o, ho, hn⟩ := hr q e.symm
    rw [h2] at ho
    cases ho
    cases hn
  · rintro l pre x W K ⟨s, hI, hW, hsW⟩ hK
    refine wpIn_deep (m := 0) ?_
    refine Code.wpIn_mono (fun e a' W' q => ?_) (hassign l x s _ _ W ⟨hput x a hS.fr, hW.withRest⟩)
    cases e with
    | normal =>
      obtain ⟨q, hq⟩ := q
      have ho := hout s s _ W W' hW (hcell s W hW) (hq.wd.sub (List.sublist_cons_self _ _)) fun b hb hn => absurd (hfpF s s0 b hb) hn
      have hap := List.pairwise_cons.1 hq.wd.apart
      have hqf : ¬ fps (Hc s ++ F) q := fun ⟨e, he, hb⟩ => hap.1 e (List.mem_cons_of_mem _ he) q rfl hb
      have hqo := hq.wd.own (Ent.box q (bx x) T) (by simp) q rfl
      refine hK a' W' ho.1 ho.2 ⟨s, hI, hq.wd.sub (List.Sublist.cons _ (List.Sublist.cons _ (List.Sublist.refl _))), Nat.le_trans hsW ho.1.size⟩ ⟨q, hq.fr, hq.wd.get (k := 0) rfl, ?_, fun s' h => hqf (hfpF s' s q h)⟩
      refine Classical.byContradiction fun hlt => ?_
      have h1 : w0.heap.size ≤ q := hqo.1.elim (fun h => h.elim) id
      exact hap.1 (Ent.rest (restOf w0.heap.size W (Hc s ++ F)) W) (by simp) q rfl ⟨h1, by omega, hqf⟩
    | _ => exact q.elim
  · rintro l pre x a' W _ _ ⟨s, hI, hW, hsW⟩ ⟨q', h1, h2, h3, h4⟩ hlt
    have hWb : Wd NoS w0 (Ent.box q' (bx x) T :: (Hc s ++ F)) W := ⟨hW.chg, fun e he b hb => by
      rcases List.mem_cons.1 he with rfl | he
      · cases hb
        exact ⟨.inr (by omega), (Array.getElem?_eq_some_iff.1 h2).1⟩
      · exact hW.own e he b hb, fun e he w2 hs hw2 => by
      rcases List.mem_cons.1 he with rfl | he
      · exact (hw2 q' rfl).trans h2
      · exact hW.ok e he w2 hs hw2, List.pairwise_cons.2 ⟨fun f hf b hb hfb => by cases hb; exact h4 s ⟨f, hf, hfb⟩, hW.apart⟩⟩
    refine wpIn_deep (m := 0) ?_
    refine Code.wpIn_mono (fun e a' W' q => ?_) (hbody l pre x s q' _ hI hlt a' W ⟨h1, hWb.withRest⟩)
    cases e with
    | normal =>
      obtain ⟨s', hI', hW'⟩ := q
      have hW2 : Wd NoS w0 (Ent.rest (restOf w0.heap.size W (Ent.box q' (bx x) T :: (Hc s ++ F))) W :: (Hc s' ++ F)) W' := hW'.sub (List.Sublist.cons_cons _ (List.Sublist.append_left (List.sublist_cons_self _ _) _))
      have hq2 : W'.heap[q']? = some (.cells (bx x).toArray T (0, 0)) := by
        obtain ⟨j, hj⟩ := List.getElem?_of_mem (show Ent.box q' (bx x) T ∈ Ent.rest (restOf w0.heap.size W (Ent.box q' (bx x) T :: (Hc s ++ F))) W :: (Hc s' ++ (Ent.box q' (bx x) T :: F)) by simp)
        exact hW'.get hj
      have ho := hout s s' _ W W' hW (fun r o ho hn hle => by
        rintro ⟨e, he, hb⟩
        rcases List.mem_cons.1 he with rfl | he
        · cases hb
          rw [h2] at ho
          cases ho
          cases hn
        · exact hcell s W hW r o ho hn hle ⟨e, he, hb⟩) hW2 (fun b hb hn => by
        obtain ⟨e, he, hb⟩ := hb
        rcases List.mem_cons.1 he with rfl | he
        · cases hb
          exact hq2.trans h2.symm
        · exact absurd (hfpF s s0 b ⟨e, he, hb⟩) hn)
      exact ⟨ho.1, ho.2, s', hI', hW2.sub (List.sublist_cons_self _ _), Nat.le_trans hsW ho.1.size⟩
    | _ => exact q.elim
  · rintro D ys W hD rfl ⟨s, hI, hW, _⟩ hd
    refine k D s (by omega) hI _ W ⟨⟨hS.fr.size, by rw [hS.fr.defers], hS.fr.slot⟩, ?_⟩
    have hn : ¬ fps (Hc s ++ F) D := hcell s W hW D _ hd rfl hD
    exact ⟨hW.chg, fun e he b hb => by
      rcases List.mem_cons.1 he with rfl | he
      · cases hb
        exact ⟨.inr (by omega), (Array.getElem?_eq_some_iff.1 hd).1⟩
      · exact hW.own e he b hb, fun e he w2 hs hw2 => by
      rcases List.mem_cons.1 he with rfl | he
      · exact (hw2 D rfl).trans hd
      · exact hW.ok e he w2 hs hw2, List.pairwise_cons.2 ⟨fun f hf b hb hfb => by cases hb; exact hn ⟨f, hf, hfb⟩, hW.apart⟩⟩
  · intro D c pre W _ _ h
    exact h.elim
end
end Go.Proofs.YtebajiafdkokjaaDoor

/- slices.Backward over instructions, core.Vals: the iterators' contracts. -/
namespace Go.Proofs.YtebajiafdkokjaaDoor
open Go Go.RowKit Go.Shelf
attribute [local go_sem] Oper.semAt_some

/-- the pairs that have come after k rounds over l, from its end on -/
def downL (l : List (List Value)) (k : Nat) : List (Int × List Value) := (List.range k).map fun (j : Nat) => (((l.length - 1 - j : Nat) : Int), l[l.length - 1 - j]?.getD [])
theorem downL_length (l : List (List Value)) (k : Nat) : (downL l k).length = k := by simp [downL]

set_option maxRecDepth 100000 in
set_option maxHeartbeats 2000000 in
theorem backIns1_in (n : Nat) (hn : 1 ≤ n) {α : Type} (enc : α → Int × List Value) (l Bs b off cap : Nat) (K : Nat → Prop) (Kp : World → World → Prop) (hKr : ∀ W, Kp W W) (hKt : ∀ A B C, Kp A B → Kp B C → Kp A C) (hKc : ∀ A B, Kp A B → ∀ p v, K p.block → A.cell? p = some v → B.cell? p = some v) (zs : List (List Value)) (xs : List α) (hxs : xs.map enc = downL zs zs.length) (hlen : zs.length ≤ 100000) (hb : zs ≠ [] → K b) (hBsK : K Bs) (J Jx : List α → World → Prop) (a : Option Addr) (ha : zs ≠ [] → a = some ⟨b, off, none⟩)
    (hY : ∀ pre x W, J pre W → pre.length < zs.length → YieldAt Fence.wide (n - 1) Tryd.prog l #[.int .i64 (enc x).1, .agg (enc x).2.toArray] W fun e W' =>
      (e = .returned (.bool true) ∧ J (pre ++ [x]) W' ∧ Kp W W') ∨ (e = .returned (.bool false) ∧ Jx (pre ++ [x]) W'))
    (W : World) (hBs : W.cell? ⟨Bs, 0, none⟩ = some (.slice a zs.length cap)) (h8 : ∀ z ∈ zs, z.length = 8) (hc : ∀ m z, zs[m]? = some z → ∀ j v, z[j]? = some v → W.cell? ⟨b, off + m * 8 + j, none⟩ = some v) (h0 : J [] W) :
    CallsIn Fence.wide n Tryd.prog 114 #[.func (.yield l) #[] #[], .pointer (some ⟨Bs, 0, none⟩)] W fun e W' => (∃ v, e = .returned v) ∧
      ((∃ ys, ys = xs ∧ J ys W') ∨ (∃ pre, pre <+: xs ∧ Jx pre W')) := by
  refine callsIn_of_wp Tryd.func114 rfl trivial ?_ rfl
  simp only [Tryd.ntmps114, List.size_toArray, List.length_cons, List.length_nil, Nat.reduceAdd, Nat.reduceSub, Array.replicate_succ, Array.replicate_zero, List.push_toArray, List.append_toArray, List.nil_append, List.cons_append]
  have hxl : xs.length = zs.length := by have := congrArg List.length hxs; rwa [List.length_map, downL_length] at this
  have hwr : wrap64 ((zs.length : Int) - 1) = (zs.length : Int) - 1 := wrap64_in' _ (by omega) (by omega)
  gi_wp2
  gi_loopw [3] (fun i wr => ∃ m : Nat, m ≤ zs.length ∧ i = .int .i64 ((m : Int) - 1) ∧ J (xs.take (zs.length - m)) wr ∧ Kp W wr) (fun i _ => (intOf i + 1).toNat)
  case atStart => exact ⟨zs.length, Nat.le_refl _, by first | rfl | simp [hwr], by simpa using h0, hKr _⟩
  case round =>
    obtain ⟨m, hm, rfl, hJs, hk⟩ := hrel
    cases m with
    | zero =>
      gi_wp2
      go_end0
      exact ⟨⟨_, rfl⟩, .inl ⟨xs, rfl, by rw [Nat.sub_zero, List.take_of_length_le (by omega)] at hJs; exact hJs⟩⟩
    | succ m =>
      have hne : zs ≠ [] := by rintro rfl; simp at hm
      obtain rfl := ha hne
      rw [show (((m + 1 : Nat) : Int) - 1) = (m : Int) by omega]
      obtain ⟨z, hz⟩ : ∃ z, zs[m]? = some z := ⟨_, List.getElem?_eq_getElem (by omega)⟩
      have hz8 := h8 z (List.mem_of_getElem? hz)
      obtain ⟨c0, c1, c2, c3, c4, c5, c6, c7, rfl⟩ : ∃ c0 c1 c2 c3 c4 c5 c6 c7, z = [c0, c1, c2, c3, c4, c5, c6, c7] := by
        match z, hz8 with
        | [c0, c1, c2, c3, c4, c5, c6, c7], _ => exact ⟨c0, c1, c2, c3, c4, c5, c6, c7, rfl⟩
      have hc0 : wr.cell? ⟨b, off + m * 8, none⟩ = some c0 := hKc _ _ hk ⟨b, off + m * 8, none⟩ _ (hb hne) (hc m _ hz 0 c0 rfl)
      have hc1 : wr.cell? ⟨b, off + m * 8 + 1, none⟩ = some c1 := hKc _ _ hk ⟨b, off + m * 8 + 1, none⟩ _ (hb hne) (hc m _ hz 1 c1 rfl)
      have hc2 : wr.cell? ⟨b, off + m * 8 + 2, none⟩ = some c2 := hKc _ _ hk ⟨b, off + m * 8 + 2, none⟩ _ (hb hne) (hc m _ hz 2 c2 rfl)
      have hc3 : wr.cell? ⟨b, off + m * 8 + 3, none⟩ = some c3 := hKc _ _ hk ⟨b, off + m * 8 + 3, none⟩ _ (hb hne) (hc m _ hz 3 c3 rfl)
      have hc4 : wr.cell? ⟨b, off + m * 8 + 4, none⟩ = some c4 := hKc _ _ hk ⟨b, off + m * 8 + 4, none⟩ _ (hb hne) (hc m _ hz 4 c4 rfl)
      have hc5 : wr.cell? ⟨b, off + m * 8 + 5, none⟩ = some c5 := hKc _ _ hk ⟨b, off + m * 8 + 5, none⟩ _ (hb hne) (hc m _ hz 5 c5 rfl)
      have hc6 : wr.cell? ⟨b, off + m * 8 + 6, none⟩ = some c6 := hKc _ _ hk ⟨b, off + m * 8 + 6, none⟩ _ (hb hne) (hc m _ hz 6 c6 rfl)
      have hc7 : wr.cell? ⟨b, off + m * 8 + 7, none⟩ = some c7 := hKc _ _ hk ⟨b, off + m * 8 + 7, none⟩ _ (hb hne) (hc m _ hz 7 c7 rfl)
      have hBx : wr.cell? ⟨Bs, 0, none⟩ = some (.slice (some ⟨b, off, none⟩) zs.length cap) := hKc _ _ hk ⟨Bs, 0, none⟩ _ hBsK hBs
      have hlt : m < zs.length := by omega
      obtain ⟨x, hx⟩ : ∃ x, xs[zs.length - (m + 1)]? = some x := ⟨_, List.getElem?_eq_getElem (by omega)⟩
      have hex : enc x = ((m : Int), [c0, c1, c2, c3, c4, c5, c6, c7]) := by
        have h1 : (xs.map enc)[zs.length - (m + 1)]? = some (enc x) := by rw [List.getElem?_map, hx]; rfl
        rw [hxs, downL, List.getElem?_map, List.getElem?_range (by omega)] at h1
        simp only [Option.map_some, Option.some.injEq] at h1
        rw [← h1, show zs.length - 1 - (zs.length - (m + 1)) = m by omega, hz]; rfl
      have hY1 := hY _ x wr hJs (by rw [List.length_take]; omega)
      rw [hex] at hY1
      have htk : xs.take (zs.length - (m + 1)) ++ [x] = xs.take (zs.length - m) := by
        rw [show zs.length - m = (zs.length - (m + 1)) + 1 by omega, List.take_add_one, hx]; rfl
      rw [htk] at hY1
      obtain ⟨fn, tmps, assign, body, hy, hR⟩ := hY1
      dsimp only at hy
      have hwr2 : wrap64 ((m : Int) - 1) = (m : Int) - 1 := wrap64_in' _ (by omega) (by omega)
      gi_wp2
      refine hR.mono ?_
      rintro e W3 (⟨rfl, hJ3, hk3⟩ | ⟨rfl, hJx3⟩)
      · gi_wp2
        go_roundw
        case rel => exact ⟨m, by omega, by first | rfl | simp [hwr2], hJ3, hKt _ _ _ hk hk3⟩
        case measure => simp [intOf]
      · gi_wp2
        refine bodyPost_ret (results_none rfl _ _ _) rfl ?_
        exact ⟨⟨_, rfl⟩, .inr ⟨_, List.take_prefix _ _, hJx3⟩⟩
end Go.Proofs.YtebajiafdkokjaaDoor

/- What is still needed, as plain functions and facts. No program in sight. -/
namespace Go.Proofs.YtebajiafdkokjaaDoor
open Go Go.RowKit

def namesR (l : List LVal) (r : Nat) : Bool := l.any fun v => v.reg && decide (v.n = r)
def valsOf (x : LIns) : List LVal := (if (shape x.op).2.1 then [x.a] else []) ++ ((if (shape x.op).2.2 then [x.b] else []) ++ x.args)
def usesOf (x : LIns) : List LVal := if x.op = 21 then [] else if x.op = 20 then x.args else if (2 ≤ x.op ∧ x.op ≤ 15) ∨ x.op = 19 then [x.a, x.b] else if 1 ≤ x.op ∧ x.op ≤ 22 then [x.a] else []
/-- a register that there is -/
def ValOk (R : Nat) (v : LVal) : Prop := v.reg = true → 0 ≤ v.n ∧ v.n < R
structure InsOk (R : Nat) (x : LIns) : Prop where
  op : 1 ≤ x.op ∧ x.op ≤ 22
  args : x.op ≠ 20 → x.args = []
  dst : 0 ≤ x.dst → x.dst < R
  vals : ∀ v ∈ valsOf x, ValOk R v
theorem uses_vals {R : Nat} {x : LIns} (h : InsOk R x) : usesOf x = valsOf x := by
  have h1 := h.op
  unfold usesOf valsOf shape
  by_cases e20 : x.op = 20
  · simp [e20]
  · rw [h.args e20]
    by_cases e21 : x.op = 21
    · simp [e21]
    · rw [if_neg e21, if_neg e20]
      by_cases e1 : ((x.op = 1 ∨ x.op = 16) ∨ x.op = 17) ∨ x.op = 18
      · rw [if_pos e1, if_neg (by omega), if_pos h1]; simp
      · rw [if_neg e1]
        by_cases e2 : 2 ≤ x.op ∧ x.op ≤ 15
        · rw [if_pos e2, if_pos (.inl e2)]; simp
        · rw [if_neg e2]
          by_cases e3 : x.op = 19
          · rw [if_pos e3, if_pos (.inr e3)]; simp
          · have e4 : x.op = 22 := by omega
            simp [e4]

def takeV (s : List Bool) (v : LVal) : List Bool := if v.reg then s.set v.n.toNat true else s
def insV (s : List Bool) (x : LIns) : List Bool := (valsOf x).foldl takeV (if 0 ≤ x.dst then s.set x.dst.toNat false else s)
theorem takeV_length (s : List Bool) (v : LVal) : (takeV s v).length = s.length := by unfold takeV; split <;> simp
theorem takes_length (l : List LVal) : ∀ s : List Bool, (l.foldl takeV s).length = s.length := by
  induction l with
  | nil => exact fun _ => rfl
  | cons v l ih => exact fun s => by rw [List.foldl_cons, ih, takeV_length]
theorem insV_length (s : List Bool) (x : LIns) : (insV s x).length = s.length := by unfold insV; rw [takes_length]; split <;> simp
def has (s : List Bool) (r : Nat) : Prop := s[r]? = some true
theorem has_takeV {s : List Bool} {v : LVal} {r : Nat} (hv : ValOk s.length v) : has (takeV s v) r ↔ (has s r ∨ (v.reg = true ∧ v.n = r)) := by
  unfold takeV has
  by_cases h : v.reg = true
  · have := hv h
    rw [if_pos h, List.getElem?_set]
    by_cases e : v.n.toNat = r
    · rw [if_pos e, if_pos (by omega)]
      simp only [true_iff]
      exact .inr ⟨h, by omega⟩
    · rw [if_neg e]
      exact ⟨.inl, fun h => h.resolve_right fun h => e (by omega)⟩
  · rw [if_neg h]
    exact ⟨.inl, fun h' => h'.resolve_right fun h' => h h'.1⟩
theorem has_takes {r : Nat} : ∀ (l : List LVal) (s : List Bool), (∀ v ∈ l, ValOk s.length v) → (has (l.foldl takeV s) r ↔ (has s r ∨ namesR l r = true))
  | [], s, _ => by simp [namesR]
  | v :: l, s, h => by
    rw [List.foldl_cons, has_takes l (takeV s v) (by rw [takeV_length]; exact fun u hu => h u (List.mem_cons_of_mem _ hu)), has_takeV (h v (by simp))]
    simp only [namesR, List.any_cons, Bool.or_eq_true, Bool.and_eq_true, decide_eq_true_eq, or_assoc]
theorem has_set_false {s : List Bool} {d r : Nat} : has (s.set d false) r ↔ (has s r ∧ d ≠ r) := by
  unfold has
  rw [List.getElem?_set]
  by_cases e : d = r
  · subst e
    simp only [if_true, ne_eq, not_true_eq_false, and_false, iff_false]
    split <;> simp
  · rw [if_neg e]; simp [e]
theorem has_insV {s : List Bool} {x : LIns} {r : Nat} (hx : InsOk s.length x) : has (insV s x) r ↔ (namesR (valsOf x) r = true ∨ (x.dst ≠ r ∧ has s r)) := by
  unfold insV
  rw [has_takes _ _ (by split <;> simpa using hx.vals)]
  by_cases h : 0 ≤ x.dst
  · rw [if_pos h, has_set_false]
    constructor
    · rintro (⟨h1, h2⟩ | h1)
      · exact .inr ⟨fun e => h2 (by omega), h1⟩
      · exact .inl h1
    · rintro (h1 | ⟨h1, h2⟩)
      · exact .inr h1
      · exact .inl ⟨h2, fun e => h1 (by omega)⟩
  · rw [if_neg h]
    constructor
    · rintro (h1 | h1)
      · exact .inr ⟨by omega, h1⟩
      · exact .inl h1
    · rintro (h1 | ⟨_, h1⟩)
      · exact .inr h1
      · exact .inl h1

/-! ### Who leads to a block; what its phis take -/
def preds (bl : List LBlock) (t : Nat) : List Nat := (List.range bl.length).filter fun i => decide ((t : Int) ∈ toOf bl i)
def phisOf (bl : List LBlock) (t : Nat) : List LPhi := match bl[t]? with | some B => B.phis | none => []
def noV : LVal := ⟨false, 0⟩
/-- does a phi of t take r from b? -/
def takesR (bl : List LBlock) (t b r : Nat) : Bool := (phisOf bl t).any fun p => namesR [p.src[(preds bl t).idxOf b]?.getD noV] r
structure PhiOk (R np : Nat) (p : LPhi) : Prop where
  dst : 0 ≤ p.dst ∧ p.dst < R
  len : p.src.length = np
  vals : ∀ v ∈ p.src, ValOk R v
structure BlockOk (R : Nat) (bl : List LBlock) (b : Nat) (B : LBlock) : Prop where
  phis : ∀ p ∈ B.phis, PhiOk R (preds bl b).length p
  list : ∀ x ∈ B.list, InsOk R x
  on : ValOk R B.on
  to : B.to.Nodup
structure FuncOk (R : Nat) (bl : List LBlock) : Prop where
  good : GoodB bl
  block : ∀ b B, bl[b]? = some B → BlockOk R bl b B

/-! ### Live -/
/-- is r live at a place of block b: -1 ahead of its phis, i ahead of instruction i, their number: ahead of the end, one more: behind it -/
inductive LiveS (bl : List LBlock) (r : Nat) : Nat → Int → Prop
  | phi {b : Nat} {B : LBlock} : bl[b]? = some B → (∀ p ∈ B.phis, p.dst ≠ r) → LiveS bl r b 0 → LiveS bl r b (-1)
  | use {b i : Nat} {B : LBlock} {x : LIns} : bl[b]? = some B → B.list[i]? = some x → namesR (usesOf x) r = true → LiveS bl r b i
  | go {b i : Nat} {B : LBlock} {x : LIns} : bl[b]? = some B → B.list[i]? = some x → x.dst ≠ r → LiveS bl r b (i + 1 : Nat) → LiveS bl r b i
  | on {b : Nat} {B : LBlock} : bl[b]? = some B → namesR [B.on] r = true → LiveS bl r b B.list.length
  | take {b : Nat} {B : LBlock} {j : Int} {t : Nat} : bl[b]? = some B → (j = B.list.length ∨ j = B.list.length + 1) → (t : Int) ∈ B.to → takesR bl t b r = true → LiveS bl r b j
  | jump {b : Nat} {B : LBlock} {j : Int} {t : Nat} : bl[b]? = some B → (j = B.list.length ∨ j = B.list.length + 1) → (t : Int) ∈ B.to → LiveS bl r t (-1) → LiveS bl r b j

/-- live behind block b, where what is live ahead of each block is told by I -/
def Beh (bl : List LBlock) (I : Nat → Nat → Prop) (b r : Nat) : Prop := ∃ t : Nat, (t : Int) ∈ toOf bl b ∧ (takesR bl t b r = true ∨ I t r)
/-- live ahead of instruction i -/
def Suf (l : List LIns) (on : LVal) (P : Nat → Prop) (r : Nat) : Prop := match l with
  | [] => namesR [on] r = true ∨ P r
  | x :: l => namesR (usesOf x) r = true ∨ (x.dst ≠ r ∧ Suf l on P r)
/-- live ahead of a block -/
def Head (bl : List LBlock) (I : Nat → Nat → Prop) (b r : Nat) : Prop := ∃ B, bl[b]? = some B ∧ (∀ p ∈ B.phis, p.dst ≠ r) ∧ Suf B.list B.on (Beh bl I b) r
theorem Beh.mono {bl : List LBlock} {I J : Nat → Nat → Prop} (h : ∀ t r, I t r → J t r) {b r : Nat} (k : Beh bl I b r) : Beh bl J b r := by
  obtain ⟨t, h1, h2⟩ := k
  exact ⟨t, h1, h2.imp id (h t r)⟩
theorem Suf.mono {on : LVal} {P Q : Nat → Prop} (h : ∀ r, P r → Q r) : ∀ {l : List LIns} {r : Nat}, Suf l on P r → Suf l on Q r
  | [], r, k => k.imp id (h r)
  | _ :: _, _, k => k.imp id fun ⟨h1, h2⟩ => ⟨h1, Suf.mono h h2⟩
theorem Suf.congr {on : LVal} {P Q : Nat → Prop} (h : ∀ r, P r ↔ Q r) {l : List LIns} {r : Nat} : Suf l on P r ↔ Suf l on Q r := ⟨Suf.mono fun r => (h r).1, Suf.mono fun r => (h r).2⟩
theorem Head.mono {bl : List LBlock} {I J : Nat → Nat → Prop} (h : ∀ t r, I t r → J t r) {b r : Nat} (k : Head bl I b r) : Head bl J b r := by
  obtain ⟨B, h1, h2, h3⟩ := k
  exact ⟨B, h1, h2, Suf.mono (fun r => Beh.mono h) h3⟩
/-- what is computed from live sets is live -/
theorem beh_live {bl : List LBlock} {I : Nat → Nat → Prop} (h : ∀ t r, I t r → LiveS bl r t (-1)) {b r : Nat} {B : LBlock} (hB : bl[b]? = some B) {j : Int} (hj : j = B.list.length ∨ j = B.list.length + 1) (k : Beh bl I b r) : LiveS bl r b j := by
  obtain ⟨t, h1, h2⟩ := k
  rw [toOf_get hB] at h1
  rcases h2 with h2 | h2
  · exact .take hB hj h1 h2
  · exact .jump hB hj h1 (h t r h2)
theorem suf_live {bl : List LBlock} {b r : Nat} {B : LBlock} (hB : bl[b]? = some B) {P : Nat → Prop} (hP : P r → LiveS bl r b B.list.length) : ∀ (l : List LIns) (i : Nat), B.list.drop i = l → Suf l B.on P r → i ≤ B.list.length → LiveS bl r b i
  | [], i, hd, k, hle => by
    have hi : i = B.list.length := by
      have := List.drop_eq_nil_iff.1 hd
      omega
    subst hi
    exact k.elim (fun h => .on hB h) hP
  | x :: l, i, hd, k, hle => by
    have hlt : i < B.list.length := by
      by_cases h : i < B.list.length
      · exact h
      · rw [List.drop_eq_nil_of_le (by omega)] at hd; cases hd
    have hx : B.list[i]? = some x := by
      have := congrArg (fun l => l[0]?) hd
      simpa using this
    have hd' : B.list.drop (i + 1) = l := by
      have := congrArg (List.drop 1) hd
      simpa [List.drop_drop] using this
    rcases k with k | ⟨k1, k2⟩
    · exact .use hB hx k
    · exact .go hB hx k1 (suf_live hB hP l (i + 1) hd' k2 (by omega))
theorem head_live {bl : List LBlock} {I : Nat → Nat → Prop} (h : ∀ t r, I t r → LiveS bl r t (-1)) {b r : Nat} (k : Head bl I b r) : LiveS bl r b (-1) := by
  obtain ⟨B, hB, h2, h3⟩ := k
  exact .phi hB h2 (suf_live hB (fun hP => beh_live h hB (.inl rfl) hP) B.list 0 rfl h3 (Nat.zero_le _))
/-- what is closed holds all that is live -/
theorem live_closed {bl : List LBlock} {I : Nat → Nat → Prop} {r : Nat} (h : ∀ b, Head bl I b r → I b r) {b : Nat} {j : Int} (k : LiveS bl r b j) :
    ∀ B, bl[b]? = some B → (j = -1 → I b r) ∧ (∀ i : Nat, j = i → i ≤ B.list.length → Suf (B.list.drop i) B.on (Beh bl I b) r) ∧ (j = B.list.length + 1 → Beh bl I b r) := by
  induction k with
  | @phi b B hB hp _ ih =>
    intro B' hB'
    rw [hB] at hB'; cases hB'
    have h1 := (ih B hB).2.1 0 rfl (Nat.zero_le _)
    exact ⟨fun _ => h b ⟨B, hB, hp, h1⟩, fun i hi => by omega, fun hj => by omega⟩
  | @use b i B x hB hx hn =>
    intro B' hB'
    rw [hB] at hB'; cases hB'
    have hlt := (List.getElem?_eq_some_iff.1 hx).1
    refine ⟨fun e => by omega, fun i' hi' _ => ?_, fun hj => by omega⟩
    have : i' = i := by omega
    subst this
    rw [List.drop_eq_getElem_cons hlt, show B.list[i'] = x from (List.getElem?_eq_some_iff.1 hx).2]
    exact .inl hn
  | @go b i B x hB hx hd _ ih =>
    intro B' hB'
    rw [hB] at hB'; cases hB'
    have hlt := (List.getElem?_eq_some_iff.1 hx).1
    refine ⟨fun e => by omega, fun i' hi' _ => ?_, fun hj => by omega⟩
    have : i' = i := by omega
    subst this
    rw [List.drop_eq_getElem_cons hlt, show B.list[i'] = x from (List.getElem?_eq_some_iff.1 hx).2]
    exact .inr ⟨hd, (ih B hB).2.1 (i' + 1) rfl (by omega)⟩
  | @on b B hB hn =>
    intro B' hB'
    rw [hB] at hB'; cases hB'
    refine ⟨fun e => by omega, fun i' hi' _ => ?_, fun hj => by omega⟩
    have : i' = B.list.length := by omega
    subst this
    rw [List.drop_length]
    exact .inl hn
  | @take b B j t hB hj ht hk =>
    intro B' hB'
    rw [hB] at hB'; cases hB'
    have hb : Beh bl I b r := ⟨t, by rw [toOf_get hB]; exact ht, .inl hk⟩
    refine ⟨fun e => by omega, fun i' hi' hle => ?_, fun _ => hb⟩
    have : i' = B.list.length := by omega
    subst this
    rw [List.drop_length]
    exact .inr hb
  | @jump b B j t hB hj ht _ ih =>
    intro B' hB'
    rw [hB] at hB'; cases hB'
    have hb : Beh bl I b r := by
      refine ⟨t, by rw [toOf_get hB]; exact ht, .inr ?_⟩
      cases hT : bl[t]? with
      | some T => exact (ih T hT).1 rfl
      | none =>
        rename_i hl
        cases hl with
        | phi hB2 => rw [hT] at hB2; cases hB2
        | take hB2 => rw [hT] at hB2; cases hB2
        | jump hB2 => rw [hT] at hB2; cases hB2
    refine ⟨fun e => by omega, fun i' hi' hle => ?_, fun _ => hb⟩
    have : i' = B.list.length := by omega
    subst this
    rw [List.drop_length]
    exact .inr hb
end Go.Proofs.YtebajiafdkokjaaDoor

/- From the check's facts to what the live sets lean on; the sets as lists. -/
namespace Go.Proofs.YtebajiafdkokjaaDoor
open Go Go.RowKit

/-! ### Predecessors -/
theorem aheadIn_get (i t : Nat) : ∀ (l : List Int) (rows : List (List Int)), (∀ z ∈ l, 0 ≤ z) → (l.foldl (aheadIn i) rows)[t]? = rows[t]?.map (· ++ (l.filter fun z : Int => decide (z = (t : Int))).map fun _ => (i : Int))
  | [], rows, _ => by
    simp only [List.foldl_nil, List.filter_nil, List.map_nil, List.append_nil]
    cases rows[t]? <;> rfl
  | z :: l, rows, h => by
    rw [List.foldl_cons, aheadIn_get i t l _ fun y hy => h y (List.mem_cons_of_mem _ hy)]
    have hz := h z (by simp)
    unfold aheadIn
    rw [List.getElem?_modify]
    by_cases e : z.toNat = t
    · have e2 : z = t := by omega
      rw [e]
      cases rows[t]? with
      | none => simp
      | some r => simp [e2]
    · have e2 : ¬ z = t := by omega
      cases hr : rows[t]? with
      | none => simp
      | some r => simp [e, e2]
theorem filter_one {l : List Int} (hn : l.Nodup) (t : Int) : l.filter (fun z : Int => decide (z = t)) = if t ∈ l then [t] else [] := by
  induction l with
  | nil => simp
  | cons z l ih =>
    rw [List.nodup_cons] at hn
    have := ih hn.2
    by_cases e : z = t
    · subst e
      rw [List.filter_cons_of_pos (by simp), this, if_neg hn.1, if_pos (by simp)]
    · rw [List.filter_cons_of_neg (by simpa using e), this]
      by_cases h : t ∈ l
      · rw [if_pos h, if_pos (List.mem_cons_of_mem _ h)]
      · rw [if_neg h, if_neg (by simp only [List.mem_cons, not_or]; exact ⟨fun h => e h.symm, h⟩)]
theorem aheadTo_get {bl : List LBlock} (hok : GoodB bl) (hto : ∀ (b : Nat) (B : LBlock), bl[b]? = some B → B.to.Nodup) {t : Nat} (ht : t < bl.length) : ∀ i, i ≤ bl.length → (aheadTo bl i)[t]? = some (((List.range i).filter fun i => decide ((t : Int) ∈ toOf bl i)).map fun x : Nat => (x : Int))
  | 0, _ => by simp [aheadTo, ht]
  | i + 1, hi => by
    obtain ⟨B, hB⟩ : ∃ B, bl[i]? = some B := ⟨_, List.getElem?_eq_getElem (by omega)⟩
    simp only [aheadTo, hB]
    rw [aheadIn_get i t _ _ fun z hz => ((hok B (List.mem_of_getElem? hB)).2 z hz).1, aheadTo_get hok hto ht i (by omega), filter_one (hto i B hB), List.range_succ, List.filter_append, List.map_append]
    simp only [Option.map_some, Option.some.injEq]
    congr 1
    by_cases h : (t : Int) ∈ B.to
    · rw [if_pos h]; simp [toOf_get hB, h]
    · rw [if_neg h]; simp [toOf_get hB, h]
theorem aheadL_get {bl : List LBlock} (hok : GoodB bl) (hto : ∀ (b : Nat) (B : LBlock), bl[b]? = some B → B.to.Nodup) {t : Nat} (ht : t < bl.length) : (aheadL bl)[t]? = some ((preds bl t).map fun x : Nat => (x : Int)) := aheadTo_get hok hto ht bl.length (Nat.le_refl _)

/-! ### What the check tells -/
theorem valErr_ok {R : Nat} {v : LVal} (h : valErr R v = 0) : ValOk R v := by
  intro hr
  unfold valErr within at h
  rw [hr] at h
  by_cases h1 : 0 ≤ v.n
  · by_cases h2 : v.n ≤ (R : Int) - 1
    · exact ⟨h1, by omega⟩
    · simp [h2] at h
  · simp [h1] at h
theorem dstErr_ok {R : Nat} {n : Int} (h : dstErr R n = 0) : 0 ≤ n ∧ n < R := by
  unfold dstErr within at h
  by_cases h1 : 0 ≤ n
  · by_cases h2 : n ≤ (R : Int) - 1
    · exact ⟨h1, by omega⟩
    · simp [h2] at h
  · simp [h1] at h
theorem at0_all {α : Type} {f : α → Int} {l : List α} (h : (firstI (at0 l f) l.length).1 = 0) : ∀ x ∈ l, f x = 0 := fun x hx => by
  obtain ⟨j, hj⟩ := List.getElem?_of_mem hx
  have := firstI_zero h j (List.getElem?_eq_some_iff.1 hj).1
  simpa [at0, hj] using this
theorem noVal_ok {R : Nat} {v : LVal} (h : noVal v = true) : ValOk R v := by
  intro hr
  unfold noVal at h
  rw [hr] at h
  cases h
theorem insErr_ok {fs : List LFunc} {R : Nat} {x : LIns} (h : insErr fs R x = 0) : InsOk R x := by
  unfold insErr at h
  split at h
  · cases h
  rename_i h1
  split at h
  · cases h
  rename_i h2
  split at h
  · rename_i h3
    simp only [Bool.and_eq_true, Bool.not_eq_true', decide_eq_false_iff_not] at h3
    exact absurd h h3.2
  rename_i h3
  split at h
  · rename_i h4; exact absurd h h4
  rename_i h4
  split at h
  · rename_i h5; exact absurd h h5
  rename_i h5
  have hop : 1 ≤ x.op ∧ x.op ≤ 22 := by simpa [within] using h1
  simp only [strayB, Bool.or_eq_true, Bool.and_eq_true, Bool.not_eq_true', decide_eq_false_iff_not, decide_eq_true_eq, not_or, not_and, Decidable.not_not, Bool.not_eq_false] at h2
  simp only [ne_eq, Decidable.not_not] at h4 h5
  have harg : x.op ≠ 20 → x.args = [] := fun e => by
    have := (h2.2 e).2
    exact List.eq_nil_of_length_eq_zero (by omega)
  refine ⟨hop, harg, fun hd => ?_, fun v hv => ?_⟩
  · by_cases hs : (shape x.op).1 = true
    · simp only [Bool.and_eq_true, Bool.not_eq_true', decide_eq_false_iff_not, hs, true_and, not_and, Decidable.not_not, Bool.and_eq_false_iff] at h3
      have := h3 (by
        by_cases e : x.op = 20
        · right; omega
        · left; exact e)
      exact (dstErr_ok this).2
    · have := h2.1.1.1 (by simpa using hs)
      omega
  · unfold valsOf at hv
    rcases List.mem_append.1 hv with hv | hv
    · split at hv
      · simp only [List.mem_singleton] at hv; subst hv; exact valErr_ok h4
      · cases hv
    · rcases List.mem_append.1 hv with hv | hv
      · split at hv
        · simp only [List.mem_singleton] at hv; subst hv; exact valErr_ok h5
        · cases hv
      · unfold callErr at h
        by_cases e : x.op = 20
        · rw [if_neg (by simpa using e)] at h
          split at h
          · cases h
          · split at h
            · cases h
            · exact valErr_ok (at0_all h v hv)
        · rw [harg e] at hv; cases hv
theorem endErr_ok {n R : Nat} {b : LBlock} (h : endErr n R b = 0) : ValOk R b.on ∧ b.to.Nodup := by
  unfold endErr endE at h
  split at h
  · cases h
  rename_i h1
  split at h
  · cases h
  rename_i h2
  split at h
  · cases h
  split at h
  · cases h
  rename_i h4
  refine ⟨valErr_ok h, ?_⟩
  simp only [within, Bool.not_eq_true', Bool.and_eq_false_iff, decide_eq_false_iff_not, not_or, Decidable.not_not] at h1
  simp only [ne_eq, Decidable.not_not] at h2
  simp only [Bool.or_eq_true, Bool.and_eq_true, decide_eq_true_eq, not_or, not_and] at h4
  have h5 := h4.1
  generalize b.to = l at h2 h5
  match l, h2, h5 with
  | [], _, _ => simp
  | [x], _, _ => simp
  | [x, y], h2, h5 =>
    have := h5 (by simp at h2; omega)
    simp at this
    simp [this]
  | x :: y :: z :: l, h2, _ => simp at h2; omega
theorem func_okF {fs : List LFunc} {f : LFunc} {R : Nat} (hR : f.regs = R) (h : bodyErr fs f = 0) : FuncOk R f.blocks := by
  have hg := bodyErr_good h
  unfold bodyErr at h
  split at h
  · rename_i h1; exact absurd h h1
  rename_i h1
  have hend := at0_all (by simpa using h1 : (firstI (at0 f.blocks (endErr f.blocks.length f.regs)) f.blocks.length).1 = 0)
  rw [hR] at hend
  have hto : ∀ (b : Nat) (B : LBlock), f.blocks[b]? = some B → B.to.Nodup := fun b B hB => (endErr_ok (hend B (List.mem_of_getElem? hB))).2
  refine ⟨hg, fun b B hB => ?_⟩
  have hb := firstI_zero h b (List.getElem?_eq_some_iff.1 hB).1
  simp only [blockErr, hB] at hb
  split at hb
  · rename_i h2; exact absurd hb h2
  rename_i h2
  have hphi := at0_all (by simpa using h2 : (firstI (at0 B.phis (phiErr f.regs f.blocks b)) B.phis.length).1 = 0)
  have hins := at0_all hb
  rw [hR] at hphi hins
  refine ⟨fun p hp => ?_, fun x hx => insErr_ok (hins x hx), (endErr_ok (hend B (List.mem_of_getElem? hB))).1, hto b B hB⟩
  have hp' := hphi p hp
  unfold phiErr phiE at hp'
  split at hp'
  · cases hp'
  split at hp'
  · rename_i h3; exact absurd hp' h3
  rename_i h3
  split at hp'
  · cases hp'
  rename_i h4
  rw [aheadL_get hg hto (List.getElem?_eq_some_iff.1 hB).1] at h4
  simp only [Option.getD_some, List.length_map, ne_eq, Decidable.not_not] at h4
  exact ⟨dstErr_ok (by simpa using h3), by omega, fun v hv => valErr_ok (at0_all hp' v hv)⟩
theorem check_head {u : LUnit} (h : (checkL u).1 = 0) {k : Nat} {X : LFunc} (hX : u.funcs[k]? = some X) : 0 ≤ X.params ∧ X.params ≤ X.regs ∧ X.regs ≤ 100 := by
  unfold checkL at h
  split at h
  · cases h
  · split at h
    · rename_i h2; exact absurd h h2
    · split at h
      · rename_i h2; exact absurd h h2
      · rename_i h3
        have hz := firstI_zero (by simpa using h3)
        have := hz k (List.getElem?_eq_some_iff.1 hX).1
        simp only [headAt, at0, hX, headErr] at this
        split at this
        · cases this
        split at this
        · cases this
        split at this
        · cases this
        rename_i h4
        simp only [within, Bool.or_eq_true, Bool.not_eq_true', Bool.and_eq_false_iff, decide_eq_false_iff_not, not_or, Decidable.not_not] at h4
        omega
/-- a function of a unit that passes the check -/
theorem check_func {u : LUnit} (h : (checkL u).1 = 0) {k : Nat} {X : LFunc} (hX : u.funcs[k]? = some X) : ∃ R : Nat, X.regs = R ∧ R ≤ 100 ∧ FuncOk R X.blocks := by
  have h1 := check_head h hX
  refine ⟨X.regs.toNat, by omega, by omega, func_okF (by omega) (check_bodies h X (List.mem_of_getElem? hX))⟩

/-! ### The sets as lists -/
theorem has_suf {R : Nat} {on : LVal} {P : Nat → Prop} {s : List Bool} (hs : s.length = R) (h0 : ∀ r, has s r ↔ Suf [] on P r) : ∀ l : List LIns, (∀ x ∈ l, InsOk R x) → (l.reverse.foldl insV s).length = R ∧ ∀ r, has (l.reverse.foldl insV s) r ↔ Suf l on P r
  | [], _ => ⟨hs, h0⟩
  | x :: l, h => by
    have ih := has_suf hs h0 l fun y hy => h y (List.mem_cons_of_mem _ hy)
    have hx := h x (by simp)
    rw [List.reverse_cons, List.foldl_append]
    simp only [List.foldl_cons, List.foldl_nil]
    refine ⟨by rw [insV_length]; exact ih.1, fun r => ?_⟩
    rw [has_insV (by rw [ih.1]; exact hx), ih.2 r]
    simp only [Suf]
    rw [uses_vals hx]
theorem has_phis {r : Nat} : ∀ (l : List LPhi) (s : List Bool), (∀ p ∈ l, 0 ≤ p.dst) → (has (l.foldl (fun s p => s.set p.dst.toNat false) s) r ↔ (has s r ∧ ∀ p ∈ l, p.dst ≠ r))
  | [], s, _ => by simp
  | p :: l, s, h => by
    have hp := h p (by simp)
    rw [List.foldl_cons, has_phis l _ fun q hq => h q (List.mem_cons_of_mem _ hq), has_set_false]
    simp only [List.mem_cons, forall_eq_or_imp, and_assoc]
    constructor
    · rintro ⟨h1, h2, h3⟩; exact ⟨h1, fun e => h2 (by omega), h3⟩
    · rintro ⟨h1, h2, h3⟩; exact ⟨h1, fun e => h2 (by omega), h3⟩
theorem phis_length (l : List LPhi) : ∀ s : List Bool, (l.foldl (fun s p => s.set p.dst.toNat false) s).length = s.length := by
  induction l with
  | nil => exact fun _ => rfl
  | cons p l ih => exact fun s => by rw [List.foldl_cons, ih, List.length_set]
/-- live ahead of a block by what is live behind it -/
def headV (B : LBlock) (s : List Bool) : List Bool := B.phis.foldl (fun s p => s.set p.dst.toNat false) (B.list.reverse.foldl insV (takeV s B.on))
theorem headV_length (B : LBlock) (s : List Bool) : (headV B s).length = s.length := by
  unfold headV
  rw [phis_length]
  have : ∀ l : List LIns, ∀ s : List Bool, (l.foldl insV s).length = s.length := by
    intro l
    induction l with
    | nil => exact fun _ => rfl
    | cons x l ih => exact fun s => by rw [List.foldl_cons, ih, insV_length]
  rw [this, takeV_length]
theorem has_headV {R : Nat} {bl : List LBlock} {b : Nat} {B : LBlock} {I : Nat → Nat → Prop} (hf : FuncOk R bl) (hB : bl[b]? = some B) {s : List Bool} (hs : s.length = R) (h : ∀ r, has s r ↔ Beh bl I b r) (r : Nat) : has (headV B s) r ↔ Head bl I b r := by
  have ho := hf.block b B hB
  unfold headV
  have h1 : ∀ r, has (takeV s B.on) r ↔ Suf [] B.on (Beh bl I b) r := fun r => by
    rw [has_takeV (by rw [hs]; exact ho.on), h r]
    simp only [Suf, namesR, List.any_cons, List.any_nil, Bool.or_false, Bool.and_eq_true, decide_eq_true_eq]
    exact or_comm
  have h2 := has_suf (by rw [takeV_length]; exact hs) h1 B.list ho.list
  rw [has_phis _ _ fun p hp => (ho.phis p hp).dst.1, h2.2 r]
  constructor
  · rintro ⟨h3, h4⟩; exact ⟨B, hB, h4, h3⟩
  · rintro ⟨B', hB', h3, h4⟩
    rw [hB] at hB'; cases hB'
    exact ⟨h4, h3⟩
end Go.Proofs.YtebajiafdkokjaaDoor

/- core.Vals: the iterator over the values of an instruction. -/
namespace Go.Proofs.YtebajiafdkokjaaDoor
open Go Go.RowKit

section
variable {P : Program} {N : Nat} {ds : List Deferred} {S : Nat → Prop} {w0 : World} {L : List (Nat × Value)} {H : List Ent} {ops : Array Oper} {rest : List Oper} {Q : Exit → Act → World → Prop} {p : Act → World → Prop}
/-- from here on the world as it is -/
theorem rebase {a : Act} {w : World} (hF : Fr N ds L a) (h : G N ds NoS w L [] p) : p a w := h a w ⟨hF, Wd.nil NoS w⟩
theorem g_base (h : ∀ w, Wd S w0 H w → G N ds NoS w L [] p) : G N ds S w0 L H p := fun a w hS => h w hS.wd a w ⟨hS.fr, Wd.nil NoS w⟩
/-- a call of yield -/
theorem g_yield {d ty l m : Nat} {args : List Operand} {vs : List Value} {tys : Array Nat} {pos : String} {aft : Array Go.Edge} {x : Operand} (R : World → Value → World → Prop) [hf : Ev L x (.func (.yield l) #[] #[])] [hx : Evs L args vs] (hd : okPut d N L = true)
    (hc : ∀ w, Wd S w0 H w → YieldAt (FW none) m P l vs.toArray w fun e w' => ∃ v, e = .returned v ∧ R w v w')
    (k : ∀ v w w', Wd S w0 H w → R w v w' → ∀ a, Fr N ds ((d, v) :: L) a → wpListIn (FW none) 0 P ops Q rest a w') : G N ds S w0 L H (wpListIn (FW none) 0 P ops Q (⟨some d, .call { callee := .value x, args := args.toArray, argTypes := tys }, ty, pos, aft, none⟩ :: rest)) := by
  intro a w hS
  obtain ⟨fn, tmps, assign, body, hy, hR⟩ := hc w hS.wd
  refine wpListIn_plain rfl fun K hK => ?_
  refine ⟨fun _ _ => trivial, ?_⟩
  rw [semAt_ne _ _ _ (fun _ h => by cases h)]
  have hr : (execOp a.eval ⟨some d, .call { callee := .value x, args := args.toArray, argTypes := tys }, ty, pos, aft, none⟩).run P w = .ok (.round l fn tmps assign body) w := by
    simp [execOp, resolve, hf.eq _ _ _ hS.fr, Deferred.ofValue, invoke, hx.eq _ _ _ hS.fr, hy]
  rw [hr]
  refine ⟨fun h => (by cases h), ?_⟩
  have hR0 : RoundIn (FW none) (0 - 1) P l fn tmps assign body w fun e w' => ∃ v, e = .returned v ∧ R w v w' := ⟨hR.1, fun c cs _ => hR.2 c cs (fun d hd => by cases hd)⟩
  refine hR0.mono fun e w' ⟨v, he, hv⟩ => ?_
  subst he
  exact hK _ _ (k v w w' hS.wd hv _ (hS.fr.putOk hd v))
/-- once slot d is written, M holds -/
theorem g_joinM {ro : Option Nat} {l l1 l2 : List Oper} (d : Nat) (M : Act → World → Prop) [hs : SplitTo l d l1 l2] (h1 : G N ds S w0 L H (wpListIn (FW ro) 0 P ops (Exit.then M Q) l1)) (h2 : ∀ a w, M a w → wpListIn (FW ro) 0 P ops Q l2 a w) : G N ds S w0 L H (wpListIn (FW ro) 0 P ops Q l) := fun a w hS => by
  obtain ⟨n, e1, e2⟩ := hs.eq
  exact wpl_split (M := M) n (fun a w h => by rw [e2]; exact h2 a w h) (by rw [e1]; exact h1 a w hS)
/-- it holds here -/
theorem g_here {M : Act → World → Prop} {a : Act} {w : World} (h : M a w) : M a w := h
end
theorem CellsAt.mono {w w' : World} (h : ∀ p v, w.cell? p = some v → w'.cell? p = some v) {b o : Nat} {cs : List Value} (hc : CellsAt w b o cs) : CellsAt w' b o cs := fun j v hj => h _ _ (hc j v hj)
theorem SlAt.mono {α : Type} {V : World → α → List Value → Prop} {w w' : World} (hV : ∀ x cs, V w x cs → V w' x cs) (h : ∀ p v, w.cell? p = some v → w'.cell? p = some v) {v : Value} {s : Nat} {l : List α} (hs : SlAt w v s l V) : SlAt w' v s l V := by
  obtain ⟨a, n, c, b, o, h1, h2, h3, hz, h4, h5, h6⟩ := hs
  refine ⟨a, n, c, b, o, h1, h2, h3, hz, h4, h5, fun i x hx => ?_⟩
  obtain ⟨cs, hc, hv⟩ := h6 i x hx
  exact ⟨cs, hc.mono h, hV x cs hv⟩
theorem Chg.cells {w w' : World} (h : Chg NoS w w') : ∀ p v, w.cell? p = some v → w'.cell? p = some v := fun _ _ hc => cell_keep h hc
/-- new memory alone: an iterator's caller does not mind -/
theorem jchg {β : Type} {B : Nat} {J : β → World → Prop} (h : AbidesFrom B J) {s : β} {w w' : World} (hc : Chg NoS w w') (hs : J s w) : J s w' :=
  h s w w' none hs ⟨hc.os, hc.tape, hc.output, hc.size, fun k hk _ => hc.block k hk fun h => h⟩ (fun r e => by cases e)
attribute [local irreducible] wpListIn Code.wpIn Exit.then Exit.inBlock bodyPost wpQuiet wpAnyIn
set_option maxHeartbeats 4000000

theorem vals_c (x : LIns) (xv : Value) (hxv : ∃ a n c, xv = .slice a n c) (w0 : World) :
    Ret Tryd.prog 115 [.agg #[.int .i64 x.op, .int .i64 x.dst, .bool x.a.reg, .int .i64 x.a.n, .bool x.b.reg, .int .i64 x.b.n, .int .i64 x.fn, xv]] w0 fun u w' => ∃ p : Nat, u = .func (.func 136) #[] #[.pointer (some ⟨p, 0, none⟩)] ∧ Wd NoS w0 [Ent.box p [.int .i64 x.op, .int .i64 x.dst, .bool x.a.reg, .int .i64 x.a.n, .bool x.b.reg, .int .i64 x.b.n, .int .i64 x.fn, xv] 114] w' ∧ True := by
  obtain ⟨a, n, c, rfl⟩ := hxv
  refine ret_enter Tryd.func115 rfl Tryd.ntmps115 rfl (Wd.nil NoS w0) ?_
  repeat (first | refine g_op rfl ?_ | refine g_then ?_ | refine g_nil ?_ | refine g_region ?_ | refine g_seq ?_ | refine g_opS rfl ?_ | refine g_box rfl fun _ _ => ?_ | refine g_ret ?_)
  exact g_ret1 rfl fun w hw => ⟨_, rfl, hw, trivial⟩
theorem vals1_c {α : Type} (enc : α → LVal) (x : LIns) (va : Option Addr) (vn vc : Nat) (xs : List α) (hxs : xs.map enc = valsOf x) (hlen : x.args.length ≤ 100000) (l bp : Nat) (own : Nat → Prop) (wz : World) (hsl : SlAt wz (.slice va vn vc) 2 x.args ValV) (hown : ∀ b, b < wz.heap.size → ¬ own b) (hbp : ¬ own bp) (W : World) (hownW : ∀ b, W.heap.size ≤ b → ¬ own b) (J Jx : List α → World → Prop) (B : Nat) (hJ : AbidesFrom B J) (hJx : AbidesFrom B Jx)
    (hY : ∀ pre y W, J pre W → pre.length < xs.length → YieldAt (FW none) 3 Tryd.prog l #[.agg #[.bool (enc y).reg, .int .i64 (enc y).n]] W fun e W' =>
      (e = .returned (.bool true) ∧ J (pre ++ [y]) W' ∧ KeepX own W W') ∨ (e = .returned (.bool false) ∧ Jx (pre ++ [y]) W'))
    (hz : ∀ p v, wz.cell? p = some v → W.cell? p = some v) (hc : CellsAt W bp 0 [.int .i64 x.op, .int .i64 x.dst, .bool x.a.reg, .int .i64 x.a.n, .bool x.b.reg, .int .i64 x.b.n, .int .i64 x.fn, .slice va vn vc]) (h0 : J [] W) :
    Ret Tryd.prog 136 [.func (.yield l) #[] #[], .pointer (some ⟨bp, 0, none⟩)] W fun _ W' => (∃ ys, ys = xs ∧ J ys W') ∨ (∃ pre, pre <+: xs ∧ Jx pre W') := by
  have hbpi : CellsIs W bp 0 _ := ⟨hc⟩
  refine ret_enter Tryd.func136 rfl Tryd.ntmps136 rfl (Wd.nil NoS W) ?_
  repeat (first | refine g_op rfl ?_ | refine g_region ?_ | refine g_seq ?_)
  refine g_callV rfl (fun w hw => shapes_c x.op w) ?_
  repeat (first | refine g_op rfl ?_ | refine g_then ?_ | refine g_nil ?_ | refine g_region ?_ | refine g_seq ?_ | refine g_alloc rfl fun _ _ => ?_ | refine g_storeAgg ?_)
  rename_i p3 hp3
  have henc : ∀ j v, (valsOf x)[j]? = some v → ∃ y, xs[j]? = some y ∧ enc y = v := fun j v hj => by
    rw [← hxs, List.getElem?_map] at hj
    obtain ⟨y, hy, e⟩ := Option.map_eq_some_iff.1 hj
    exact ⟨y, hy, e⟩
  have hxl : xs.length = (valsOf x).length := by have := congrArg List.length hxs; rwa [List.length_map] at this
  have htk : ∀ j y, xs[j]? = some y → xs.take j ++ [y] = xs.take (j + 1) := fun j y hy => by rw [List.take_add_one, hy]; rfl
  -- one more value
  have step : ∀ j v, (valsOf x)[j]? = some v → ∀ w, J (xs.take j) w → YieldAt (FW none) 3 Tryd.prog l [Value.agg #[.bool v.reg, .int .i64 v.n]].toArray w fun e W' => ∃ u, e = .returned u ∧ ((u = .bool true ∧ J (xs.take (j + 1)) W' ∧ KeepX own w W') ∨ (u = .bool false ∧ Jx (xs.take (j + 1)) W')) := fun j v hj w hJw => by
    obtain ⟨y, hy, rfl⟩ := henc j v hj
    have hlt := (List.getElem?_eq_some_iff.1 hy).1
    have := hY (xs.take j) y w hJw (by rw [List.length_take]; omega)
    rw [htk j y hy] at this
    exact this.mono fun e W' h => h.elim (fun ⟨h1, h2, h3⟩ => ⟨_, h1, .inl ⟨rfl, h2, h3⟩⟩) fun ⟨h1, h2⟩ => ⟨_, h1, .inr ⟨rfl, h2⟩⟩
  have keepW : ∀ w, (∀ p v, wz.cell? p = some v → w.cell? p = some v) → ∀ w', KeepX own w w' → ∀ p v, wz.cell? p = some v → w'.cell? p = some v := fun w h w' hk p v hp => hk.cell (hown _ (World.block_lt_of_cell? wz p hp)) (h p v hp)
  have keepC : ∀ b cs, ¬ own b → ∀ w, CellsAt w b 0 cs → ∀ w', KeepX own w w' → CellsAt w' b 0 cs := fun b cs hb w h w' hk j v hj => hk.cell hb (h j v hj)
  unfold valsOf at hxl step
  generalize shape x.op = sh at hxl step ⊢
  obtain ⟨s1, sA, sB⟩ := sh
  simp only at hxl step ⊢
  have hn3 : ¬ own p3 := hownW p3 hp3
  refine g_joinM 18 (fun a w => (Fr 41 [] [(18, .bool false), (3, .pointer (some ⟨p3, 0, none⟩)), (0, .func (.yield l) #[] #[]), (1, .pointer (some ⟨bp, 0, none⟩))] a ∧ J (xs.take (if sA then 1 else 0)) w ∧ (∀ p v, wz.cell? p = some v → w.cell? p = some v) ∧ CellsAt w bp 0 [.int .i64 x.op, .int .i64 x.dst, .bool x.a.reg, .int .i64 x.a.n, .bool x.b.reg, .int .i64 x.b.n, .int .i64 x.fn, .slice va vn vc] ∧ CellsAt w p3 0 [.bool s1, .bool sA, .bool sB]) ∨ (Fr 41 [] [(18, .bool true), (0, .func (.yield l) #[] #[]), (1, .pointer (some ⟨bp, 0, none⟩))] a ∧ ∃ pre, pre <+: xs ∧ Jx pre w)) ?_ ?_
  · cases sA
    · repeat (first | refine g_op rfl ?_ | refine g_then ?_ | refine g_nil ?_ | refine g_pass rfl ?_)
      exact fun a w hS => .inl ⟨hS.fr.to (by repeat (first | exact trivial | refine ⟨rfl, ?_⟩)), jchg hJ hS.wd.chg (by simpa using h0), fun p v h => cell_keep hS.wd.chg (hz p v h), hc.keep hS.wd.chg, hS.wd.boxCells p3⟩
    · repeat (first | refine g_op rfl ?_ | refine g_open ?_)
      refine g_yield (m := 3) (fun w v w' => (v = .bool true ∧ J (xs.take 1) w' ∧ KeepX own w w') ∨ (v = .bool false ∧ Jx (xs.take 1) w')) rfl (fun w hw => step 0 x.a rfl w (jchg hJ hw.chg (by simpa using h0))) fun v w w' hw hR a hF => ?_
      rcases hR with ⟨rfl, hJ', hk⟩ | ⟨rfl, hJ'⟩
      · have hb' := keepC bp _ hbp w (hc.keep hw.chg) w' hk
        have h3' := keepC p3 _ hn3 w (hw.boxCells p3) w' hk
        have hz' := keepW w (fun p v h => cell_keep hw.chg (hz p v h)) w' hk
        refine rebase hF ?_
        repeat (first | refine g_op rfl ?_ | refine g_then ?_ | refine g_nil ?_ | refine g_open ?_)
        exact fun a w hS => .inl ⟨hS.fr.to (by repeat (first | exact trivial | refine ⟨rfl, ?_⟩)), jchg hJ hS.wd.chg hJ', fun p v h => cell_keep hS.wd.chg (hz' p v h), hb'.keep hS.wd.chg, h3'.keep hS.wd.chg⟩
      · refine rebase hF ?_
        repeat (first | refine g_op rfl ?_ | refine g_then ?_ | refine g_nil ?_ | refine g_open ?_)
        exact fun a w hS => .inr ⟨hS.fr.to (by repeat (first | exact trivial | refine ⟨rfl, ?_⟩)), _, List.take_prefix _ _, jchg hJx hS.wd.chg hJ'⟩
  intro a w hM
  rcases hM with ⟨hF, hJA, hzA, hbA, h3A⟩ | ⟨hF, pre, hpre, hJA⟩
  case inr =>
    refine rebase hF ?_
    repeat (first | refine g_op rfl ?_ | refine g_then ?_ | refine g_nil ?_ | refine g_pass rfl ?_ | refine g_condT ?_ | refine g_ret ?_ | refine g_thenRet ?_ | refine g_passU rfl ?_)
    exact g_ret0 rfl fun w' hw' => .inr ⟨pre, hpre, jchg hJx hw'.chg hJA⟩
  refine rebase hF ?_
  have hbi : CellsIs w bp 0 _ := ⟨hbA⟩
  have h3i : CellsIs w p3 0 _ := ⟨h3A⟩
  repeat (first | refine g_op rfl ?_ | refine g_open ?_)
  refine g_joinM 28 (fun a w => (Fr 41 [] [(28, .bool false), (0, .func (.yield l) #[] #[]), (1, .pointer (some ⟨bp, 0, none⟩))] a ∧ J (xs.take ((if sA then 1 else 0) + (if sB then 1 else 0))) w ∧ (∀ p v, wz.cell? p = some v → w.cell? p = some v) ∧ CellsAt w bp 0 [.int .i64 x.op, .int .i64 x.dst, .bool x.a.reg, .int .i64 x.a.n, .bool x.b.reg, .int .i64 x.b.n, .int .i64 x.fn, .slice va vn vc]) ∨ (Fr 41 [] [(28, .bool true), (0, .func (.yield l) #[] #[]), (1, .pointer (some ⟨bp, 0, none⟩))] a ∧ ∃ pre, pre <+: xs ∧ Jx pre w)) ?_ ?_
  · cases sB
    · repeat (first | refine g_op rfl ?_ | refine g_then ?_ | refine g_nil ?_ | refine g_open ?_ | refine g_pass rfl ?_)
      exact fun a w2 hS => .inl ⟨hS.fr.to (by repeat (first | exact trivial | refine ⟨rfl, ?_⟩)), jchg hJ hS.wd.chg (by simpa using hJA), fun p v h => cell_keep hS.wd.chg (hzA p v h), hbA.keep hS.wd.chg⟩
    · repeat (first | refine g_op rfl ?_ | refine g_open ?_)
      refine g_yield (m := 3) (fun w v w' => (v = .bool true ∧ J (xs.take ((if sA then 1 else 0) + 1)) w' ∧ KeepX own w w') ∨ (v = .bool false ∧ Jx (xs.take ((if sA then 1 else 0) + 1)) w')) rfl (fun w2 hw => step (if sA then 1 else 0) x.b (by cases sA <;> rfl) w2 (jchg hJ hw.chg hJA)) fun v w2 w' hw hR a hF => ?_
      rcases hR with ⟨rfl, hJ', hk⟩ | ⟨rfl, hJ'⟩
      · have hb' := keepC bp _ hbp w2 (hbA.keep hw.chg) w' hk
        have hz' := keepW w2 (fun p v h => cell_keep hw.chg (hzA p v h)) w' hk
        refine rebase hF ?_
        repeat (first | refine g_op rfl ?_ | refine g_then ?_ | refine g_nil ?_ | refine g_open ?_)
        exact fun a w hS => .inl ⟨hS.fr.to (by repeat (first | exact trivial | refine ⟨rfl, ?_⟩)), jchg hJ hS.wd.chg hJ', fun p v h => cell_keep hS.wd.chg (hz' p v h), hb'.keep hS.wd.chg⟩
      · refine rebase hF ?_
        repeat (first | refine g_op rfl ?_ | refine g_then ?_ | refine g_nil ?_ | refine g_open ?_)
        exact fun a w hS => .inr ⟨hS.fr.to (by repeat (first | exact trivial | refine ⟨rfl, ?_⟩)), _, List.take_prefix _ _, jchg hJx hS.wd.chg hJ'⟩
  intro a w hM
  rcases hM with ⟨hF, hJB, hzB, hbB⟩ | ⟨hF, pre, hpre, hJB⟩
  case inr =>
    refine rebase hF ?_
    repeat (first | refine g_then ?_ | refine g_nil ?_ | refine g_condT ?_ | refine g_ret ?_ | refine g_thenRet ?_)
    exact g_ret0 rfl fun w' hw' => .inr ⟨pre, hpre, jchg hJx hw'.chg hJB⟩
  refine rebase hF ?_
  have hbi2 : CellsIs w bp 0 _ := ⟨hbB⟩
  repeat (first | refine g_op rfl ?_ | refine g_then ?_ | refine g_nil ?_ | refine g_region ?_ | refine g_seq ?_ | refine g_block ?_ | refine g_skip ?_ | refine g_condF ?_)
  generalize hc0 : (if sA = true then 1 else 0) + (if sB = true then 1 else 0) = c0 at hJB
  have hn : vn = x.args.length := by
    obtain ⟨_, _, _, _, _, e, h, _⟩ := hsl
    simp only [Value.slice.injEq] at e
    rw [e.2.1]; exact h
  have hstep : ∀ i v, x.args[i]? = some v → ((if sA = true then [x.a] else []) ++ ((if sB = true then [x.b] else []) ++ x.args))[c0 + i]? = some v := fun i v hi => by
    subst hc0
    cases sA <;> cases sB <;> simp [hi, Nat.add_comm]
  have hxl2 : xs.length = c0 + x.args.length := by
    subst hc0
    rw [hxl]
    cases sA <;> cases sB <;> simp <;> omega
  intro a w1 hS1
  have hJ1 := jchg hJ hS1.wd.chg hJB
  have hz1 := fun p v h => cell_keep hS1.wd.chg (hzB p v h)
  have hF1 := hS1.fr
  refine c_loop (fun (i : Nat) a w => i ≤ vn ∧ Fr 41 [] [(32, .int .i64 (i : Int)), (30, .slice va vn vc), (31, .int .i64 vn), (0, .func (.yield l) #[] #[]), (1, .pointer (some ⟨bp, 0, none⟩))] a ∧ J (xs.take (c0 + i)) w ∧ ∀ p v, wz.cell? p = some v → w.cell? p = some v) (fun i => vn - i) 0 ⟨Nat.zero_le _, hF1.to (by repeat (first | exact trivial | refine ⟨rfl, ?_⟩)), by simpa using hJ1, hz1⟩ ?_
  rintro i a w ⟨hi, hF, hJi, hzi⟩
  refine rebase hF ?_
  repeat (first | refine g_op rfl ?_ | refine g_then ?_ | refine g_nil ?_ | refine g_region ?_ | refine g_seq ?_)
  refine g_cond (fun h1 => ?_) (fun h1 => ?_)
  · have hlt : i < vn := by simpa using h1
    obtain ⟨v, hv⟩ : ∃ v, x.args[i]? = some v := ⟨_, List.getElem?_eq_getElem (by omega)⟩
    have hsl2 : SlAt w (.slice va vn vc) 2 x.args ValV := SlAt.mono (w := wz) (w' := w) (V := ValV) (fun _ _ h => h) hzi hsl
    obtain ⟨va', vn', vc', vb, vo, e, hvn, _, _, _, hva, hvel⟩ := hsl2
    simp only [Value.slice.injEq] at e
    obtain ⟨rfl, rfl, rfl⟩ := e
    have had : AddrIs va vb vo := ⟨hva (ne_of_get hv)⟩
    have hli : LtIs i vn := ⟨hlt⟩
    obtain ⟨cs, hcs, rfl, _⟩ := hvel i v hv
    have hci : CellsIs w vb (vo + i * 2) _ := ⟨hcs⟩
    repeat (first | refine g_op rfl ?_ | refine g_then ?_ | refine g_nil ?_ | refine g_region ?_ | refine g_seq ?_ | refine g_alloc rfl fun _ _ => ?_ | refine g_storeAgg ?_ | refine g_block ?_ | refine g_skip ?_)
    refine g_yield (m := 3) (fun w v w' => (v = .bool true ∧ J (xs.take (c0 + i + 1)) w' ∧ KeepX own w w') ∨ (v = .bool false ∧ Jx (xs.take (c0 + i + 1)) w')) rfl (fun w2 hw => step (c0 + i) v (hstep i v hv) w2 (jchg hJ hw.chg hJi)) fun v w2 w' hw hR a hF => ?_
    rcases hR with ⟨rfl, hJ', hk⟩ | ⟨rfl, hJ'⟩
    · have hz' := keepW w2 (fun p v h => cell_keep hw.chg (hzi p v h)) w' hk
      refine rebase hF ?_
      repeat (first | refine g_op rfl ?_ | refine g_then ?_ | refine g_nil ?_ | refine g_region ?_ | refine g_opS rfl ?_ | refine g_inBlock ?_ | refine g_skip ?_ | refine g_condF ?_ | refine g_add rfl (by omega) (by omega) ?_)
      exact fun a w3 hS => ⟨i + 1, ⟨hlt, hS.fr.to (by repeat (first | exact trivial | refine ⟨rfl, ?_⟩)), jchg hJ hS.wd.chg hJ', fun p v h => cell_keep hS.wd.chg (hz' p v h)⟩, by omega⟩
    · refine rebase hF ?_
      repeat (first | refine g_op rfl ?_ | refine g_then ?_ | refine g_nil ?_ | refine g_condT ?_ | refine g_ret ?_ | refine g_thenRet ?_ | refine g_blockRet ?_)
      exact g_ret0 rfl fun w3 hw3 => .inr ⟨_, List.take_prefix _ _, jchg hJx hw3.chg hJ'⟩
  · have hge : i = vn := by have := h1; simp at this; omega
    repeat (first | refine g_exit ?_ | refine g_thenExit ?_ | refine g_exitHere ?_)
    refine g_end0 rfl fun w3 hw3 => .inl ⟨xs, rfl, ?_⟩
    rw [List.take_of_length_le (by omega)] at hJi
    exact jchg hJ hw3.chg hJi
end Go.Proofs.YtebajiafdkokjaaDoor
