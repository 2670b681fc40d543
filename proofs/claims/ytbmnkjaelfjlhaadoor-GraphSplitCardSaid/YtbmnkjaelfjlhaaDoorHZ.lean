/- Texts joined: SplitY. -/
import Derived.Test.YtbmnkjaelfjlhaaDoorHY
/- The law GraphSplit: graph.Split keeps what a unit means, leaves no edge from one of two to one of two, and done again it changes nothing. -/
namespace Go.Proofs.YtbmnkjaelfjlhaaDoor
open Go Go.RowKit
attribute [local irreducible] wpListIn Code.wpIn Exit.then Exit.inBlock bodyPost wpQuiet wpAnyIn wpAnyH bodyPostM oneH
set_option maxHeartbeats 4000000

theorem graphSplitLaw_c (u : LUnit) (inp : List Int) (fuel : Int) (_hk : inI fuel) (g fs iv : Value) (w0 : World) (hg : SlAt w0 g 3 u.globals GlobalV) (hf : SlAt w0 fs 4 u.funcs FuncV) (hin : SlAt w0 iv 1 inp IntV) (hways : CellsAt w0 0 0 waysC) :
    RetV Tryd.prog 4 [.agg #[g, fs], iv, .int .i64 fuel] w0 (.bool true) := by
  classical
  have hg0 := hg
  have hf0 := hf
  have hin0 := hin
  obtain ⟨ga, gn, gc, gb, go, rfl, hgn, _⟩ := hg
  obtain ⟨fa, fn, fc, fb, fo, rfl, hfn, hfnc, hfnb, hfc, hfa, hfel⟩ := hf
  obtain ⟨ia, il, ic, _, _, rfl, _⟩ := hin
  refine ret_enter Tryd.func4 rfl Tryd.ntmps4 rfl (Wd.nil NoS w0) ?_
  repeat (first | refine g_op rfl ?_ | refine g_then ?_ | refine g_nil ?_ | refine g_region ?_ | refine g_seq ?_ | refine g_box rfl fun _ _ => ?_)
  rename_i p3 _
  refine g_callE (val := fun b : Bool => .bool b) (E := fun _ => []) (φ := fun b => b = false → slim u) rfl (fun w hw => heavyS_c u _ _ w (hf0.keep keeps_func hw.chg) ⟨_, _, _, rfl⟩) fun b hb => ?_
  simp only [List.nil_append]
  cases b
  case true =>
    repeat (first | refine g_then ?_ | refine g_nil ?_ | refine g_region ?_ | refine g_seq ?_ | refine g_opS rfl ?_ | refine g_condT ?_ | refine g_ret ?_ | refine g_thenRet ?_)
    exact g_retV rfl rfl
  have hsl := hb rfl
  have hl := hsl.light
  repeat (first | refine g_op rfl ?_ | refine g_then ?_ | refine g_nil ?_ | refine g_region ?_ | refine g_seq ?_ | refine g_skip ?_ | refine g_condF ?_)
  by_cases hbad : (checkL u).1 ≠ 0
  · refine g_callV rfl (fun w hw => split_bad u hl hbad _ _ w (hg0.keep keeps_global hw.chg) (hf0.keep keeps_func hw.chg) (hways.keep hw.chg)) ?_
    repeat (first | refine g_op rfl ?_ | refine g_then ?_ | refine g_nil ?_ | refine g_region ?_ | refine g_seq ?_ | refine g_alloc rfl fun _ _ => ?_ | refine g_storeAgg ?_)
    refine g_cond (fun h1 => ?_) (fun h1 => ?_)
    · repeat (first | refine g_op rfl ?_ | refine g_region ?_ | refine g_seq ?_)
      refine g_callV rfl (fun w hw => noneE_c w) ?_
      repeat (first | refine g_then ?_ | refine g_nil ?_ | refine g_opS rfl ?_ | refine g_ret ?_ | refine g_thenRet ?_)
      exact g_retV rfl rfl
    · exact absurd h1 (by simp [hbad])
  have hch : (checkL u).1 = 0 := by simpa using hbad
  have hu : Whole u := ⟨check_zero.1 hch, nums_of hf0, gnums_of hg0⟩
  have hfi := hsl.fine hch
  have hini : ∀ x ∈ inp, inI x := fun x hx => by obtain ⟨_, _, h9⟩ := hin0.el hx; exact h9
  rcases large_or u splitF with ⟨i, X, hF⟩ | hno
  · refine g_callV rfl (fun w hw => split_big u hfi hch i X hF _ _ w (hg0.keep keeps_global hw.chg) (hf0.keep keeps_func hw.chg) (hways.keep hw.chg)) ?_
    repeat (first | refine g_op rfl ?_ | refine g_then ?_ | refine g_nil ?_ | refine g_region ?_ | refine g_seq ?_ | refine g_alloc rfl fun _ _ => ?_ | refine g_storeAgg ?_ | refine g_condT ?_)
    refine g_callV rfl (fun w hw => noneE_c w) ?_
    repeat (first | refine g_then ?_ | refine g_nil ?_ | refine g_opS rfl ?_ | refine g_ret ?_ | refine g_thenRet ?_)
    exact g_retV rfl rfl
  have hu2 := splitU_whole hu hno
  have hch2 := check_zero.2 hu2.ok
  have hl2 := check_light hu2.ok
  obtain ⟨hfi2, hno2, hagain⟩ := splitU_again hu hno
  have hfn2 : (splitU u).funcs.length = u.funcs.length := by unfold splitU; rw [List.length_map]
  have hfpos : 0 < u.funcs.length := by
    have h1 := hu.ok.main
    cases hfs : u.funcs with
    | nil => rw [hfs] at h1; exact absurd h1 (by decide)
    | cons _ _ => simp
  refine g_callE (val := (fun x : (Option Addr × Nat) × (Option Addr × Nat) × (Nat → Prop) => Value.tuple #[.agg #[.slice x.1.1 gn x.1.2, .slice x.2.1.1 fn x.2.1.2], .agg #[.int .i64 0, .int .i64 0]])) (E := (fun x : (Option Addr × Nat) × (Option Addr × Nat) × (Nat → Prop) => [unitE (splitU u) (.slice x.1.1 gn x.1.2) (.slice x.2.1.1 fn x.2.1.2) x.2.2])) (φ := fun _ => True) rfl (fun w hw => by rw [hgn, hfn]; exact split_ok u hfi hch hno _ _ w (by rw [← hgn]; exact hg0.keep keeps_global hw.chg) (by rw [← hfn]; exact hf0.keep keeps_func hw.chg) (hways.keep hw.chg)) fun x _ => ?_
  obtain ⟨⟨ya, yc⟩, ⟨za, zc⟩, fp⟩ := x
  simp only [List.cons_append, List.nil_append]
  repeat (first | refine g_op rfl ?_ | refine g_then ?_ | refine g_nil ?_ | refine g_region ?_ | refine g_seq ?_ | refine g_alloc rfl fun _ _ => ?_ | refine g_storeAgg ?_ | refine g_skip ?_ | refine g_condF ?_)
  rename_i p7 _ p8 _
  refine g_callE (val := (fun x : (Option Addr × Nat) × (Option Addr × Nat) × (Nat → Prop) => Value.tuple #[.agg #[.slice x.1.1 gn x.1.2, .slice x.2.1.1 fn x.2.1.2], .agg #[.int .i64 0, .int .i64 0]])) (E := (fun x : (Option Addr × Nat) × (Option Addr × Nat) × (Nat → Prop) => [unitE (splitU u) (.slice x.1.1 gn x.1.2) (.slice x.2.1.1 fn x.2.1.2) x.2.2])) (φ := fun _ => True) rfl (fun w hw => ?_) fun x _ => ?_
  · have h2 := split_ok (splitU u) hfi2 hch2 hno2 (.slice ya gn yc) (.slice za fn zc) w (hw.get (k := 2) rfl).1 (hw.get (k := 2) rfl).2 (hways.keep hw.chg)
    rw [hagain, hfn2, show (splitU u).globals.length = gn from hgn.symm, ← hfn] at h2
    exact h2
  obtain ⟨⟨xa, xc⟩, ⟨va, vc⟩, fp2⟩ := x
  simp only [List.cons_append, List.nil_append]
  repeat (first | refine g_op rfl ?_ | refine g_then ?_ | refine g_nil ?_ | refine g_region ?_ | refine g_seq ?_ | refine g_alloc rfl fun _ _ => ?_ | refine g_storeAgg ?_)
  rename_i p9 _ p10 _
  refine g_callV rfl (fun w hw => none_c _ _ (splitU u) w (hw.get (k := 5) rfl).1 (hw.get (k := 5) rfl).2) ?_
  repeat (refine g_op rfl ?_)
  rw [show (decide ((splitU u).globals.length = 0) && decide ((splitU u).funcs.length = 0)) = false by rw [hfn2, decide_eq_false (show ¬ u.funcs.length = 0 by omega), Bool.and_false]]
  repeat (first | refine g_op rfl ?_ | refine g_open ?_)
  rw [show (!decide ((0 : Int) = 0)) = false by simp]
  skip
  refine g_callV rfl (fun w hw => unitsSame_c _ _ _ _ (splitU u) w (hw.get (k := 5) rfl).1 (hw.get (k := 5) rfl).2 (hw.get (k := 2) rfl).1 (hw.get (k := 2) rfl).2) ?_
  repeat (first | refine g_op rfl ?_ | refine g_then ?_ | refine g_nil ?_ | refine g_region ?_ | refine g_seq ?_ | refine g_open ?_ | refine g_block ?_ | refine g_skip ?_ | refine g_condF ?_)
  refine g_sel [4, 6, 5] (by decide) ?_
  refine g_eqH (H1 := [Ent.box p7 [.slice ya gn yc, .slice za fn zc] 25, Ent.box p3 [.slice ga gn gc, .slice fa fn fc] 25] ++ [unitE (splitU u) (.slice ya gn yc) (.slice za fn zc) fp]) rfl ?_
  refine g_holdK fun w1 hw1 => ?_
  have hun : SlAt (killW (fps [Ent.box p7 [.slice ya gn yc, .slice za fn zc] 25, Ent.box p3 [.slice ga gn gc, .slice fa fn fc] 25]) w1) (.slice ya gn yc) 3 u.globals GlobalV ∧ SlAt (killW (fps [Ent.box p7 [.slice ya gn yc, .slice za fn zc] 25, Ent.box p3 [.slice ga gn gc, .slice fa fn fc] 25]) w1) (.slice za fn zc) 4 (splitU u).funcs FuncV := hw1.beside (e := unitE (splitU u) (.slice ya gn yc) (.slice za fn zc) fp) (by simp)
  have back : ∀ {E : List Ent} {w : World}, Wd (fps [Ent.box p7 [.slice ya gn yc, .slice za fn zc] 25, Ent.box p3 [.slice ga gn gc, .slice fa fn fc] 25]) (killW (fps [Ent.box p7 [.slice ya gn yc, .slice za fn zc] 25, Ent.box p3 [.slice ga gn gc, .slice fa fn fc] 25]) w1) E w → Wd NoS w0 (E ++ [unitE (splitU u) (.slice ya gn yc) (.slice za fn zc) fp]) w := fun hw => hw1.comp hw.unkill
  have hkp : ∀ {E : List Ent} {w : World}, Wd (fps [Ent.box p7 [.slice ya gn yc, .slice za fn zc] 25, Ent.box p3 [.slice ga gn gc, .slice fa fn fc] 25]) (killW (fps [Ent.box p7 [.slice ya gn yc, .slice za fn zc] 25, Ent.box p3 [.slice ga gn gc, .slice fa fn fc] 25]) w1) E w → ∀ p v, (killW (fps [Ent.box p7 [.slice ya gn yc, .slice za fn zc] 25, Ent.box p3 [.slice ga gn gc, .slice fa fn fc] 25]) w1).cell? p = some v → w.cell? p = some v := fun hw => hw.killKeep
  have hold : ∀ {b o : Nat} {v : Value} {l : List Value}, CellsAt (killW (fps [Ent.box p7 [.slice ya gn yc, .slice za fn zc] 25, Ent.box p3 [.slice ga gn gc, .slice fa fn fc] 25]) w1) b o (v :: l) → OldIs (fps [Ent.box p7 [.slice ya gn yc, .slice za fn zc] 25, Ent.box p3 [.slice ga gn gc, .slice fa fn fc] 25]) b := fun hc => killOldIs hc (by simp)
  have hgk := hg0.keep keeps_global hw1.killOld
  have hfk := hf0.keep keeps_func hw1.killOld
  have hink := hin0.keep keeps_int hw1.killOld
  have hwk := hways.keep hw1.killOld
  generalize killW (fps [Ent.box p7 [.slice ya gn yc, .slice za fn zc] 25, Ent.box p3 [.slice ga gn gc, .slice fa fn fc] 25]) w1 = wk at *
  generalize fps [Ent.box p7 [.slice ya gn yc, .slice za fn zc] 25, Ent.box p3 [.slice ga gn gc, .slice fa fn fc] 25] = SS at *
  obtain ⟨hug, huf⟩ := hun
  have hne : u.funcs ≠ [] := fun e => by rw [e] at hfpos; simp at hfpos
  have hne2 : (splitU u).funcs ≠ [] := fun e => by rw [e] at hfn2; simp at hfn2; omega
  obtain ⟨b2, o2, had2, hold2, hel2⟩ := slKnown huf hold (fun _ _ h => by obtain ⟨_, e, _⟩ := h; exact ⟨_, _, e⟩) hne2
  refine g_loop (fun (i : Nat) => i ≤ fn) (fun i => [(11, .int .i64 i), (7, .pointer (some ⟨p7, 0, none⟩)), (3, .pointer (some ⟨p3, 0, none⟩)), (1, .slice ia il ic), (2, .int .i64 fuel)]) (fun _ => [Ent.box p7 [.slice ya gn yc, .slice za fn zc] 25, Ent.box p3 [.slice ga gn gc, .slice fa fn fc] 25]) (fun i => fn - i) 0 (Nat.zero_le _) (g_done (by repeat (first | exact trivial | refine ⟨rfl, ?_⟩)) (List.Sublist.refl _)) fun i hi => ?_
  repeat (first | refine g_op rfl ?_ | refine g_then ?_ | refine g_nil ?_ | refine g_region ?_ | refine g_seq ?_)
  refine g_cond (fun h1 => ?_) (fun h1 => ?_)
  · have hlt : i < fn := by simpa using h1
    obtain ⟨X, hX⟩ : ∃ X, u.funcs[i]? = some X := ⟨_, List.getElem?_eq_getElem (by omega)⟩
    have hY : (splitU u).funcs[i]? = some (splitF X) := by unfold splitU; simp only [List.getElem?_map, hX, Option.map_some]
    obtain ⟨_, hci2, bv2, rfl, _, _, hbv2⟩ := hel2 i _ hY
    obtain ⟨R, _, hR, hf⟩ := check_func hch hX
    have hly := check_lim hl2 hch2 _ (List.mem_of_getElem? hY)
    have hlv := (hl2.2 _ (List.mem_of_getElem? hY)).1
    have hnc : ∀ (b : Nat) (t : Int), t ∈ toOf (splitF X).blocks b → 1 < (toOf (splitF X).blocks b).length → (preds (splitF X).blocks t.toNat).length ≤ 1 := fun b t ht hl => noCrit hf.good (fun b B hB => (hf.block b B hB).to) ht hl
    obtain ⟨_, _, _, hfy⟩ := check_func hch2 hY
    have hgy := hfy.good
    generalize splitF X = Y at *
    have hbv2' := hbv2
    obtain ⟨a2, n2, c2, _, _, rfl, hn2, _⟩ := hbv2
    have hli : LtIs i fn := ⟨hlt⟩
    repeat (first | refine g_op rfl ?_ | refine g_then ?_ | refine g_nil ?_ | refine g_region ?_ | refine g_seq ?_ | refine g_block ?_ | refine g_skip ?_)
    refine g_loop (fun (b : Nat) => b ≤ n2) (fun b => [(12, .int .i64 b), (11, .int .i64 i), (7, .pointer (some ⟨p7, 0, none⟩)), (3, .pointer (some ⟨p3, 0, none⟩)), (1, .slice ia il ic), (2, .int .i64 fuel)]) (fun _ => [Ent.box p7 [.slice ya gn yc, .slice za fn zc] 25, Ent.box p3 [.slice ga gn gc, .slice fa fn fc] 25]) (fun b => n2 - b) 0 (Nat.zero_le _) (g_done (by repeat (first | exact trivial | refine ⟨rfl, ?_⟩)) (List.Sublist.refl _)) fun b hb => ?_
    repeat (first | refine g_op rfl ?_ | refine g_then ?_ | refine g_nil ?_ | refine g_region ?_ | refine g_seq ?_)
    refine g_cond (fun h2 => ?_) (fun h2 => ?_)
    · have hblt : b < n2 := by simpa using h2
      obtain ⟨B, hB⟩ : ∃ B, Y.blocks[b]? = some B := ⟨_, List.getElem?_eq_getElem (by omega)⟩
      obtain ⟨b3, o3, had3, hold3, hel3⟩ := slKnown hbv2' hold (fun _ _ h => by obtain ⟨_, _, _, e, _⟩ := h; exact ⟨_, _, e⟩) (ne_of_get hB)
      obtain ⟨_, hci3, pv, lv, tv, rfl, _, _, _, _, ht⟩ := hel3 b B hB
      have ht0 := ht
      obtain ⟨ta, tn, tc, _, _, rfl, htn, _⟩ := ht
      have hli2 : LtIs b n2 := ⟨hblt⟩
      repeat (first | refine g_op rfl ?_ | refine g_then ?_ | refine g_nil ?_ | refine g_region ?_ | refine g_seq ?_ | refine g_block ?_ | refine g_skip ?_)
      refine g_loop (fun (j : Nat) => j ≤ tn) (fun j => [(14, .int .i64 j), (13, .slice ta tn tc), (12, .int .i64 b), (11, .int .i64 i), (7, .pointer (some ⟨p7, 0, none⟩)), (3, .pointer (some ⟨p3, 0, none⟩)), (1, .slice ia il ic), (2, .int .i64 fuel)]) (fun _ => [Ent.box p7 [.slice ya gn yc, .slice za fn zc] 25, Ent.box p3 [.slice ga gn gc, .slice fa fn fc] 25]) (fun j => tn - j) 0 (Nat.zero_le _) (g_done (by repeat (first | exact trivial | refine ⟨rfl, ?_⟩)) (List.Sublist.refl _)) fun j hj => ?_
      repeat (first | refine g_op rfl ?_ | refine g_region ?_ | refine g_seq ?_)
      by_cases hj2 : j < tn
      · rw [show decide ((j : Int) < (tn : Int)) = true by simp; omega]
        repeat (first | refine g_op rfl ?_ | refine g_then ?_ | refine g_nil ?_ | refine g_open ?_)
        refine g_cond (fun h3 => ?_) (fun h3 => ?_)
        · have htn1 : 1 < tn := by have := of_decide_eq_true h3; omega
          obtain ⟨t, htj⟩ := get_lt htn hj2
          obtain ⟨b4, o4, had4, hold4, hel4⟩ := slKnown ht0 hold (fun _ _ h => ⟨_, _, h.1⟩) (ne_of_get htj)
          obtain ⟨_, hci4, rfl, _⟩ := hel4 j t htj
          have htm : t ∈ toOf Y.blocks b := by rw [toOf_get hB]; exact List.mem_of_getElem? htj
          have hle := hnc b t htm (by rw [toOf_get hB, ← htn]; exact htn1)
          have ht9 := edge_of hgy htm
          obtain ⟨k, rfl⟩ : ∃ k : Nat, t = k := ⟨t.toNat, by omega⟩
          rw [Int.toNat_natCast] at hle
          have hli3 : LtIs j tn := ⟨hj2⟩
          repeat (first | refine g_then ?_ | refine g_seq ?_ | refine g_block ?_ | refine g_skip ?_)
          refine g_drawX [Ent.box p7 [.slice ya gn yc, .slice za fn zc] 25] (fun _ : Unit => True) (fun _ => [(96, .bool false), (14, .int .i64 j), (13, .slice ta tn tc), (12, .int .i64 b), (11, .int .i64 i), (7, .pointer (some ⟨p7, 0, none⟩)), (3, .pointer (some ⟨p3, 0, none⟩)), (1, .slice ia il ic), (2, .int .i64 fuel)]) (fun _ => [Ent.box p7 [.slice ya gn yc, .slice za fn zc] 25, Ent.box p3 [.slice ga gn gc, .slice fa fn fc] 25]) mixed (by first | exact .cons_cons _ (List.nil_sublist _) | exact .cons _ (.cons_cons _ (List.nil_sublist _)) | exact .cons _ (.cons _ (.cons_cons _ (List.nil_sublist _)))) ?_ fun _ _ => ?_
          · skip
            refine h_take 0 rfl (by decide +kernel) (by first | exact .cons_cons _ (List.nil_sublist _) | exact .cons _ (.cons_cons _ (List.nil_sublist _)) | exact .cons _ (.cons _ (.cons_cons _ (List.nil_sublist _)))) ?_
            refine h_take 1 rfl (by decide +kernel) (by first | exact .cons_cons _ (List.nil_sublist _) | exact .cons _ (.cons_cons _ (List.nil_sublist _)) | exact .cons _ (.cons _ (.cons_cons _ (List.nil_sublist _)))) ?_
            refine h_take 2 rfl (by decide +kernel) (by first | exact .cons_cons _ (List.nil_sublist _) | exact .cons _ (.cons_cons _ (List.nil_sublist _)) | exact .cons _ (.cons _ (.cons_cons _ (List.nil_sublist _)))) ?_
            refine h_take 3 rfl (by decide +kernel) (by first | exact .cons_cons _ (List.nil_sublist _) | exact .cons _ (.cons_cons _ (List.nil_sublist _)) | exact .cons _ (.cons _ (.cons_cons _ (List.nil_sublist _)))) ?_
            refine h_take 4 rfl (by decide +kernel) (by first | exact .cons_cons _ (List.nil_sublist _) | exact .cons _ (.cons_cons _ (List.nil_sublist _)) | exact .cons _ (.cons _ (.cons_cons _ (List.nil_sublist _)))) ?_
            refine h_take 5 rfl (by decide +kernel) (by first | exact .cons_cons _ (List.nil_sublist _) | exact .cons _ (.cons_cons _ (List.nil_sublist _)) | exact .cons _ (.cons _ (.cons_cons _ (List.nil_sublist _)))) ?_
            refine h_take 6 rfl (by decide +kernel) (by first | exact .cons_cons _ (List.nil_sublist _) | exact .cons _ (.cons_cons _ (List.nil_sublist _)) | exact .cons _ (.cons _ (.cons_cons _ (List.nil_sublist _)))) ?_
            refine h_take 7 rfl (by decide +kernel) (by first | exact .cons_cons _ (List.nil_sublist _) | exact .cons _ (.cons_cons _ (List.nil_sublist _)) | exact .cons _ (.cons _ (.cons_cons _ (List.nil_sublist _)))) ?_
            refine h_take 8 rfl (by decide +kernel) (by first | exact .cons_cons _ (List.nil_sublist _) | exact .cons _ (.cons_cons _ (List.nil_sublist _)) | exact .cons _ (.cons _ (.cons_cons _ (List.nil_sublist _)))) ?_
            refine h_callE 9 (val := fun x : Option Addr × Nat => .slice x.1 (preds Y.blocks k).length x.2) (E := fun x => [Ent.vec x.1 (preds Y.blocks k).length x.2 3 1 ((preds Y.blocks k).map intN)]) (φ := fun _ => True) rfl (by decide +kernel) (by first | exact .cons_cons _ (List.nil_sublist _) | exact .cons _ (.cons_cons _ (List.nil_sublist _)) | exact .cons _ (.cons _ (.cons_cons _ (List.nil_sublist _)))) (fun w hw => refAhead_c _ _ _ Y.blocks _ k w (hbv2'.le mono_block (hkp hw)) (by omega)) fun y _ => ?_
            simp only [List.cons_append, List.nil_append]
            refine h_take 10 rfl (by decide +kernel) (by first | exact .cons_cons _ (List.nil_sublist _) | exact .cons _ (.cons_cons _ (List.nil_sublist _)) | exact .cons _ (.cons _ (.cons_cons _ (List.nil_sublist _)))) ?_
            refine h_take 11 rfl (by decide +kernel) (by first | exact .cons_cons _ (List.nil_sublist _) | exact .cons _ (.cons_cons _ (List.nil_sublist _)) | exact .cons _ (.cons _ (.cons_cons _ (List.nil_sublist _)))) ?_
            rw [show decide ((1 : Int) < ((preds Y.blocks k).length : Int)) = false by simp; omega]
            refine h_end (by decide +kernel) ?_
            exact g_mem () trivial (by repeat (first | exact trivial | refine ⟨rfl, ?_⟩)) (.cons _ (List.Sublist.refl _))
          · repeat (first | refine g_op rfl ?_ | refine g_then ?_ | refine g_nil ?_ | refine g_region ?_ | refine g_opS rfl ?_ | refine g_inBlock ?_ | refine g_skip ?_ | refine g_condF ?_ | refine g_add rfl (by omega) (by omega) ?_)
            exact g_next (j + 1) (by omega) (by omega) (by repeat (first | exact trivial | refine ⟨rfl, ?_⟩)) (List.Sublist.refl _)
        · repeat (first | refine g_op rfl ?_ | refine g_then ?_ | refine g_nil ?_ | refine g_region ?_ | refine g_opS rfl ?_ | refine g_inBlock ?_ | refine g_add rfl (by omega) (by omega) ?_ | refine g_exit ?_ | refine g_thenExit ?_ | refine g_exitHere ?_)
          exact g_next (b + 1) (by omega) (by omega) (by repeat (first | exact trivial | refine ⟨rfl, ?_⟩)) (List.Sublist.refl _)
      · rw [show decide ((j : Int) < (tn : Int)) = false by simp; omega]
        repeat (first | refine g_op rfl ?_ | refine g_then ?_ | refine g_nil ?_ | refine g_region ?_ | refine g_opS rfl ?_ | refine g_pass rfl ?_ | refine g_inBlock ?_ | refine g_condF ?_ | refine g_add rfl (by omega) (by omega) ?_ | refine g_exit ?_ | refine g_thenExit ?_ | refine g_exitHere ?_)
        exact g_next (b + 1) (by omega) (by omega) (by repeat (first | exact trivial | refine ⟨rfl, ?_⟩)) (List.Sublist.refl _)
    · repeat (first | refine g_op rfl ?_ | refine g_then ?_ | refine g_nil ?_ | refine g_region ?_ | refine g_opS rfl ?_ | refine g_inBlock ?_ | refine g_add rfl (by omega) (by omega) ?_ | refine g_exit ?_ | refine g_thenExit ?_ | refine g_exitHere ?_)
      exact g_next (i + 1) (by omega) (by omega) (by repeat (first | exact trivial | refine ⟨rfl, ?_⟩)) (List.Sublist.refl _)
  · refine g_unhold back ?_
    simp only [List.cons_append, List.nil_append]
    repeat (first | refine g_op rfl ?_ | refine g_then ?_ | refine g_region ?_ | refine g_seq ?_ | refine g_exit ?_ | refine g_thenExit ?_ | refine g_exitHere ?_)
    refine g_callV rfl (fun w hw => same_c u (splitU u) hl hl2 _ _ _ _ _ inp fuel w (hg0.keep keeps_global hw.chg) (hf0.keep keeps_func hw.chg) (hw.get (k := 2) rfl).1 (hw.get (k := 2) rfl).2 (hin0.keep keeps_int hw.chg) (hways.keep hw.chg) fun f hf2 hc0 hst => split_comes hu hno hini hc0 hst (by omega) (by omega)) ?_
    repeat (first | refine g_op rfl ?_ | refine g_then ?_ | refine g_nil ?_ | refine g_ret ?_)
    exact g_retV rfl rfl
end Go.Proofs.YtbmnkjaelfjlhaaDoor

