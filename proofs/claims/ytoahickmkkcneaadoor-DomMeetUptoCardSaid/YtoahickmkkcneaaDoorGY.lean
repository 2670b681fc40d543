/- Texts joined: Union DoorD. -/
import Derived.Test.YtoahickmkkcneaaDoorGV
import Derived.Test.YtoahickmkkcneaaDoorGX
/- The law DomMeet, walked: where ways from two lists meet. -/
namespace Go.Proofs.YtoahickmkkcneaaDoor
open Go Go.RowKit
attribute [local irreducible] wpListIn Code.wpIn Exit.then Exit.inBlock bodyPost wpQuiet wpAnyIn wpAnyH bodyPostM oneH
set_option maxHeartbeats 8000000

/-- what dom.Meet returns for a list -/
noncomputable def meetRes (bad : Bool) (bl : List LBlock) (l : List Int) : List Int := if bad then [] else if l.any (outB bl.length) then [] else meetL bl l
def meetErr (bad : Bool) (e : Int × Int) (bl : List LBlock) (l : List Int) : Int × Int := if bad then e else if l.any (outB bl.length) then (3, -1) else (0, 0)
theorem meetRes_len {bad : Bool} {bl : List LBlock} (hok : bad = false → GoodB bl) (l : List Int) (h24 : bl.length ≤ 24) : (meetRes bad bl l).length ≤ 24 := by
  unfold meetRes
  split
  · simp
  split
  · simp
  rename_i h _
  have hok := hok (by simpa using h)
  refine Nat.le_trans (nodup_lenJ (meetL_nodup bl l) fun y hy => ?_) h24
  obtain ⟨c, e, hc⟩ := (meetL_mem hok).1 hy
  exact ⟨c, e, hc.lt hok⟩
theorem meetRes_in {bad : Bool} {bl : List LBlock} (hok : bad = false → GoodB bl) {l : List Int} {y : Int} (hy : y ∈ meetRes bad bl l) : ∃ c : Nat, y = c ∧ c < bl.length := by
  unfold meetRes at hy
  split at hy
  · cases hy
  split at hy
  · cases hy
  rename_i h _
  have hok := hok (by simpa using h)
  obtain ⟨c, e, hc⟩ := (meetL_mem hok).1 hy
  exact ⟨c, e, hc.lt hok⟩
theorem meetAny (u : LUnit) (hl : light u) (k : Int) (hk : inI k) (g fs : Value) (w0 : World) (hg : SlAt w0 g 3 u.globals GlobalV) (hf : SlAt w0 fs 4 u.funcs FuncV) (hways : CellsAt w0 0 0 waysC) :
    ∃ (bad : Bool) (bl : List LBlock), (bad = false → GoodB bl ∧ 0 < bl.length ∧ ∃ (i : Nat) (X : LFunc), k = i ∧ u.funcs[i]? = some X ∧ X.blocks = bl) ∧ bl.length ≤ 24 ∧ (bad = true → (askedL u k).1 ≠ 0) ∧
      ∀ (l : List Int) (ma : Option Addr) (n mc : Nat) (w : World), Chg NoS w0 w → n = l.length → n ≤ 17592186044000 → SlAt w (.slice ma n mc) 1 l IntV →
        RetK Tryd.prog 43 [.agg #[g, fs], .int .i64 k, .slice ma n mc] w 1 (meetRes bad bl l) IntV fun v => .tuple #[v, .agg #[.int .i64 (meetErr bad (askedL u k) bl l).1, .int .i64 (meetErr bad (askedL u k) bl l).2]] := by
  by_cases hbad : (askedL u k).1 ≠ 0
  · refine ⟨true, [], by simp, by simp, fun _ => hbad, fun l ma n mc w hw _ _ _ => ?_⟩
    exact retK_of (β := Unit) (val := fun _ => .tuple #[.slice none 0 0, .agg #[.int .i64 (askedL u k).1, .int .i64 (askedL u k).2]]) (E := fun _ => []) (φ := fun _ => True) ((meet_bad u hl k hk hbad _ _ _ w (hg.keep keeps_global hw) (hf.keep keeps_func hw) (hways.keep hw)).mono fun v w' ⟨h1, h2⟩ => ⟨(), h1, (Wd.nil NoS w).call h2, trivial⟩) fun _ _ => ⟨none, 0, rfl, fun w2 _ => nil_sl _ _ _⟩
  have hgood : (askedL u k).1 = 0 := by simpa using hbad
  obtain ⟨hch, has, i, X, rfl, hX, hok⟩ := asked_ok hgood
  have hpos := check_pos hch hX
  have h24 := (hl.2 X (List.mem_of_getElem? hX)).1
  refine ⟨false, X.blocks, fun _ => ⟨hok, hpos, i, X, rfl, hX, rfl⟩, h24, by simp, fun l ma n mc w hw hn hll hbs => ?_⟩
  subst hn
  have hlin : ∀ x ∈ l, inI x := fun x hx => by
    obtain ⟨_, _, _, _, _, _, hel⟩ := hbs.at
    obtain ⟨j, hj⟩ := List.getElem?_of_mem hx
    obtain ⟨_, _, _, h⟩ := hel j x hj
    exact h
  cases ho : l.any (outB X.blocks.length)
  · have := meetK u hl i hgood X hX hok hpos hch ma mc l hll ho _ _ w (hg.keep keeps_global hw) (hf.keep keeps_func hw) hbs (hways.keep hw)
    simpa [meetRes, meetErr, ho] using this
  · have := retK_of (s := 1) (l := ([] : List Int)) (V := IntV) (mk := fun v => .tuple #[v, .agg #[.int .i64 3, .int .i64 (-1)]]) (β := Unit) (val := fun _ => .tuple #[.slice none 0 0, .agg #[.int .i64 3, .int .i64 (-1)]]) (E := fun _ => []) (φ := fun _ => True) ((meet_out u hl i hgood X hX l hlin ho _ _ _ w (hg.keep keeps_global hw) (hf.keep keeps_func hw) hbs (hways.keep hw)).mono fun v w' ⟨h1, h2⟩ => ⟨(), h1, (Wd.nil NoS w).call h2, trivial⟩) fun _ _ => ⟨none, 0, rfl, fun w2 _ => nil_sl _ _ _⟩
    simpa [meetRes, meetErr, ho] using this
/-- a slice of numbers that the call owns, as one reads it -/
theorem Wd.intsAt {S : Nat → Prop} {w0 w : World} {H : List Ent} (hw : Wd S w0 H w) {k : Nat} {a : Option Addr} {n c e : Nat} (l : List Int) [hv : VecIn H a n c k e 1 (l.map (.int .i64))] (hn : n = l.length) (hb : n ≤ 140737488355328) (hin : ∀ x ∈ l, inI x) : SlAt w (.slice a n c) 1 l IntV :=
  hw.slAt hv.at' hn hb fun i x hx => ⟨[.int .i64 x], fun j v hj => by
    match j, hj with
    | 0, hj => simpa [hx] using hj, rfl, hin x (List.mem_of_getElem? hx)⟩
theorem unionLaw_c (u : LUnit) (k : Int) (hk : inI k) (ma : Option Addr) (mc : Nat) (l : List Int) (hll : l.length ≤ 1048576) (na : Option Addr) (nc : Nat) (m : List Int) (hml : m.length ≤ 1048576) (g fs : Value) (w0 : World) (hg : SlAt w0 g 3 u.globals GlobalV) (hf : SlAt w0 fs 4 u.funcs FuncV) (hls : SlAt w0 (.slice ma l.length mc) 1 l IntV) (hms : SlAt w0 (.slice na m.length nc) 1 m IntV) (hways : CellsAt w0 0 0 waysC) :
    RetV Tryd.prog 11 [.agg #[g, fs], .int .i64 k, .slice ma l.length mc, .slice na m.length nc] w0 (.bool true) := by
  classical
  have hg0 := hg
  have hf0 := hf
  obtain ⟨ga, gn, gc, gb, go, rfl, _⟩ := hg
  obtain ⟨fa, fn, fc, fb, fo, rfl, hfn, hfnc, hfnb, hfc, hfa, hfel⟩ := hf
  have hlin : ∀ x ∈ l, inI x := fun x hx => by
    obtain ⟨_, _, _, _, _, _, hel⟩ := hls.at
    obtain ⟨j, hj⟩ := List.getElem?_of_mem hx
    obtain ⟨_, _, _, h⟩ := hel j x hj
    exact h
  have hmin : ∀ x ∈ m, inI x := fun x hx => by
    obtain ⟨_, _, _, _, _, _, hel⟩ := hms.at
    obtain ⟨j, hj⟩ := List.getElem?_of_mem hx
    obtain ⟨_, _, _, h⟩ := hel j x hj
    exact h
  refine ret_enter Tryd.func11 rfl Tryd.ntmps11 rfl (Wd.nil NoS w0) ?_
  repeat (first | refine g_op rfl ?_ | refine g_then ?_ | refine g_nil ?_ | refine g_region ?_ | refine g_seq ?_ | refine g_box rfl fun _ _ => ?_)
  rename_i p4 _
  refine g_callE (val := fun b : Bool => .bool b) (E := fun _ => []) (φ := fun b => b = false → light u) rfl (fun w hw => heavy_c u _ _ w (hf0.keep keeps_func hw.chg) ⟨_, _, _, rfl⟩) fun b hb => ?_
  simp only [List.nil_append]
  cases b
  case true =>
    repeat (first | refine g_then ?_ | refine g_nil ?_ | refine g_region ?_ | refine g_seq ?_ | refine g_opS rfl ?_ | refine g_condT ?_ | refine g_ret ?_ | refine g_thenRet ?_)
    exact g_retV rfl rfl
  have hl := hb rfl
  repeat (first | refine g_op rfl ?_ | refine g_then ?_ | refine g_nil ?_ | refine g_region ?_ | refine g_seq ?_ | refine g_skip ?_ | refine g_condF ?_)
  obtain ⟨bad, bl, hgood, h24, hbad, hM⟩ := meetAny u hl k hk _ _ w0 hg0 hf0 hways
  generalize hE : meetErr bad (askedL u k) bl = er at *
  refine g_callK (s := 1) (l := meetRes bad bl l) (V := IntV) (mk := fun v => .tuple #[v, .agg #[.int .i64 (er l).1, .int .i64 (er l).2]]) rfl (fun w hw => hM l ma _ mc w hw.chg rfl (by omega) (hls.keep keeps_int hw.chg)) fun xa xc xp => ?_
  repeat (first | refine g_op rfl ?_ | refine g_then ?_ | refine g_nil ?_ | refine g_region ?_ | refine g_seq ?_ | refine g_alloc rfl fun _ _ => ?_ | refine g_storeAgg ?_)
  rename_i p10 _
  refine g_callK (s := 1) (l := meetRes bad bl m) (V := IntV) (mk := fun v => .tuple #[v, .agg #[.int .i64 (er m).1, .int .i64 (er m).2]]) rfl (fun w hw => hM m na _ nc w hw.chg rfl (by omega) (hms.keep keeps_int hw.chg)) fun ya yc yp => ?_
  repeat (first | refine g_op rfl ?_ | refine g_then ?_ | refine g_nil ?_ | refine g_seq ?_ | refine g_alloc rfl fun _ _ => ?_ | refine g_storeAgg ?_)
  rename_i p12 _
  refine g_fix (L' := [(11, .slice ya (meetRes bad bl m).length yc), (12, .pointer (some ⟨p12, 0, none⟩)), (9, .slice xa (meetRes bad bl l).length xc), (10, .pointer (some ⟨p10, 0, none⟩)), (4, .pointer (some ⟨p4, 0, none⟩)), (1, .int .i64 k), (2, .slice ma l.length mc), (3, .slice na m.length nc)]) (by repeat (first | exact trivial | refine ⟨rfl, ?_⟩)) (List.Sublist.refl _) ?_
  refine g_drawX [Ent.box p12 [.int .i64 (er m).1, .int .i64 (er m).2] 29, (⟨yp, fun w => SlAt w (.slice ya (meetRes bad bl m).length yc) 1 (meetRes bad bl m) IntV⟩ : Ent), Ent.box p10 [.int .i64 (er l).1, .int .i64 (er l).2] 29, (⟨xp, fun w => SlAt w (.slice xa (meetRes bad bl l).length xc) 1 (meetRes bad bl l) IntV⟩ : Ent), Ent.box p4 [.slice ga gn gc, .slice fa fn fc] 25] (fun _ : Nat × Option Addr × Nat × (Nat → Prop) => True) (fun x => [(13, .slice x.2.1 (meetRes bad bl (l ++ m)).length x.2.2.1), (14, .pointer (some ⟨x.1, 0, none⟩)), (11, .slice ya (meetRes bad bl m).length yc), (12, .pointer (some ⟨p12, 0, none⟩)), (9, .slice xa (meetRes bad bl l).length xc), (10, .pointer (some ⟨p10, 0, none⟩)), (4, .pointer (some ⟨p4, 0, none⟩)), (1, .int .i64 k), (2, .slice ma l.length mc), (3, .slice na m.length nc)]) (fun x => Ent.box x.1 [.int .i64 (er (l ++ m)).1, .int .i64 (er (l ++ m)).2] 29 :: ⟨x.2.2.2, fun w => SlAt w (.slice x.2.1 (meetRes bad bl (l ++ m)).length x.2.2.1) 1 (meetRes bad bl (l ++ m)) IntV⟩ :: [Ent.box p12 [.int .i64 (er m).1, .int .i64 (er m).2] 29, (⟨yp, fun w => SlAt w (.slice ya (meetRes bad bl m).length yc) 1 (meetRes bad bl m) IntV⟩ : Ent), Ent.box p10 [.int .i64 (er l).1, .int .i64 (er l).2] 29, (⟨xp, fun w => SlAt w (.slice xa (meetRes bad bl l).length xc) 1 (meetRes bad bl l) IntV⟩ : Ent), Ent.box p4 [.slice ga gn gc, .slice fa fn fc] 25]) mixed (List.Sublist.refl _) ?_ ?_
  · skip
    refine h_take 0 rfl (by decide +kernel) (List.Sublist.refl _) ?_
    refine h_take 1 rfl (by decide +kernel) (List.Sublist.refl _) ?_
    refine h_take 3 rfl (by decide +kernel) (List.Sublist.refl _) ?_
    refine h_take 5 rfl (by decide +kernel) (List.Sublist.refl _) ?_
    refine h_two 2 11 (by decide +kernel) ?_ ?_
    · skip
      refine o_build0 2 rfl (by repeat (first | exact List.Sublist.refl _ | refine List.Sublist.cons _ ?_)) fun _ _ => ?_
      refine h_two 4 11 (by decide +kernel) ?_ ?_
      · skip
        (refine o_appendF 4 rfl rfl l (V := IntV) (fun x => [.int .i64 x]) (fun _ _ _ h => h.1) (fun _ => rfl) (fun y u hu => by simp only [List.mem_singleton] at hu; subst hu; rfl) (fun w hw => hls.keep keeps_int hw.chg) (by omega) (by omega) (fun _ => by simp only [List.set_cons_zero, List.set_cons_succ]; repeat (first | exact List.Sublist.refl _ | refine List.Sublist.cons _ ?_)) fun _ _ => ?_; rw [flat_one, List.nil_append, Nat.zero_add]; simp only [List.set_cons_zero, List.set_cons_succ])
        refine h_two 6 11 (by decide +kernel) ?_ ?_
        · skip
          (refine o_appendF 6 rfl rfl m (V := IntV) (fun x => [.int .i64 x]) (fun _ _ _ h => h.1) (fun _ => rfl) (fun y u hu => by simp only [List.mem_singleton] at hu; subst hu; rfl) (fun w hw => hms.keep keeps_int hw.chg) (by omega) (by omega) (fun _ => by simp only [List.set_cons_zero, List.set_cons_succ]; repeat (first | exact List.Sublist.refl _ | refine List.Sublist.cons _ ?_)) fun _ _ => ?_; rw [flat_one, ← List.map_append]; simp only [List.set_cons_zero, List.set_cons_succ])
          refine h_two 7 11 (by decide +kernel) ?_ ?_
          · skip
            refine o_callK (s := 1) (q := meetRes bad bl (l ++ m)) (V := IntV) (mk := fun v => .tuple #[v, .agg #[.int .i64 (er (l ++ m)).1, .int .i64 (er (l ++ m)).2]]) 7 rfl (by repeat (first | exact List.Sublist.refl _ | refine List.Sublist.cons _ ?_)) (fun w hw => hM (l ++ m) _ _ _ w hw.chg (by simp) (by omega) (hw.intsAt (l ++ m) (by simp) (by omega) fun x hx => (List.mem_append.1 hx).elim (hlin x) (hmin x))) fun _ _ _ => ?_
            refine h_take 8 rfl (by decide +kernel) (by repeat (first | exact List.Sublist.refl _ | refine List.Sublist.cons _ ?_)) ?_
            refine h_take 9 rfl (by decide +kernel) (by repeat (first | exact List.Sublist.refl _ | refine List.Sublist.cons _ ?_)) ?_
            refine h_take 10 rfl (by decide +kernel) (by repeat (first | exact List.Sublist.refl _ | refine List.Sublist.cons _ ?_)) ?_
            refine h_one 11 (by decide +kernel) ?_
            refine o_alloc 11 rfl (by repeat (first | exact List.Sublist.refl _ | refine List.Sublist.cons _ ?_)) fun _ _ => ?_
            refine h_take 12 rfl (by decide +kernel) (by repeat (first | exact List.Sublist.refl _ | refine List.Sublist.cons _ ?_)) ?_
            refine h_storeAgg 13 (by decide +kernel) (by repeat (first | exact List.Sublist.refl _ | refine List.Sublist.cons _ ?_)) ?_
            refine h_end (by decide +kernel) ?_
            first
              | refine g_sel [0, 1, 3, 4, 5, 6, 7] (by decide) (g_mem (_, _, _, _) trivial (by repeat (first | exact trivial | refine ⟨rfl, ?_⟩)) (List.Sublist.refl _))
              | refine g_sel [1, 0, 3, 4, 5, 6, 7] (by decide) (g_mem (_, _, _, _) trivial (by repeat (first | exact trivial | refine ⟨rfl, ?_⟩)) (List.Sublist.refl _))
              | refine g_sel [2, 0, 3, 4, 5, 6, 7] (by decide) (g_mem (_, _, _, _) trivial (by repeat (first | exact trivial | refine ⟨rfl, ?_⟩)) (List.Sublist.refl _))
          · skip
            refine o_alloc 11 rfl (by repeat (first | exact List.Sublist.refl _ | refine List.Sublist.cons _ ?_)) fun _ _ => ?_
            refine h_one 7 (by decide +kernel) ?_
            refine o_callK (s := 1) (q := meetRes bad bl (l ++ m)) (V := IntV) (mk := fun v => .tuple #[v, .agg #[.int .i64 (er (l ++ m)).1, .int .i64 (er (l ++ m)).2]]) 7 rfl (by repeat (first | exact List.Sublist.refl _ | refine List.Sublist.cons _ ?_)) (fun w hw => hM (l ++ m) _ _ _ w hw.chg (by simp) (by omega) (hw.intsAt (l ++ m) (by simp) (by omega) fun x hx => (List.mem_append.1 hx).elim (hlin x) (hmin x))) fun _ _ _ => ?_
            refine h_take 8 rfl (by decide +kernel) (by repeat (first | exact List.Sublist.refl _ | refine List.Sublist.cons _ ?_)) ?_
            refine h_take 9 rfl (by decide +kernel) (by repeat (first | exact List.Sublist.refl _ | refine List.Sublist.cons _ ?_)) ?_
            refine h_take 10 rfl (by decide +kernel) (by repeat (first | exact List.Sublist.refl _ | refine List.Sublist.cons _ ?_)) ?_
            refine h_take 12 rfl (by decide +kernel) (by repeat (first | exact List.Sublist.refl _ | refine List.Sublist.cons _ ?_)) ?_
            refine h_storeAgg 13 (by decide +kernel) (by repeat (first | exact List.Sublist.refl _ | refine List.Sublist.cons _ ?_)) ?_
            refine h_end (by decide +kernel) ?_
            first
              | refine g_sel [0, 1, 3, 4, 5, 6, 7] (by decide) (g_mem (_, _, _, _) trivial (by repeat (first | exact trivial | refine ⟨rfl, ?_⟩)) (List.Sublist.refl _))
              | refine g_sel [1, 0, 3, 4, 5, 6, 7] (by decide) (g_mem (_, _, _, _) trivial (by repeat (first | exact trivial | refine ⟨rfl, ?_⟩)) (List.Sublist.refl _))
              | refine g_sel [2, 0, 3, 4, 5, 6, 7] (by decide) (g_mem (_, _, _, _) trivial (by repeat (first | exact trivial | refine ⟨rfl, ?_⟩)) (List.Sublist.refl _))
        · skip
          refine o_alloc 11 rfl (by repeat (first | exact List.Sublist.refl _ | refine List.Sublist.cons _ ?_)) fun _ _ => ?_
          refine h_one 6 (by decide +kernel) ?_
          (refine o_appendF 6 rfl rfl m (V := IntV) (fun x => [.int .i64 x]) (fun _ _ _ h => h.1) (fun _ => rfl) (fun y u hu => by simp only [List.mem_singleton] at hu; subst hu; rfl) (fun w hw => hms.keep keeps_int hw.chg) (by omega) (by omega) (fun _ => by simp only [List.set_cons_zero, List.set_cons_succ]; repeat (first | exact List.Sublist.refl _ | refine List.Sublist.cons _ ?_)) fun _ _ => ?_; rw [flat_one, ← List.map_append]; simp only [List.set_cons_zero, List.set_cons_succ])
          refine h_one 7 (by decide +kernel) ?_
          refine o_callK (s := 1) (q := meetRes bad bl (l ++ m)) (V := IntV) (mk := fun v => .tuple #[v, .agg #[.int .i64 (er (l ++ m)).1, .int .i64 (er (l ++ m)).2]]) 7 rfl (by repeat (first | exact List.Sublist.refl _ | refine List.Sublist.cons _ ?_)) (fun w hw => hM (l ++ m) _ _ _ w hw.chg (by simp) (by omega) (hw.intsAt (l ++ m) (by simp) (by omega) fun x hx => (List.mem_append.1 hx).elim (hlin x) (hmin x))) fun _ _ _ => ?_
          refine h_take 8 rfl (by decide +kernel) (by repeat (first | exact List.Sublist.refl _ | refine List.Sublist.cons _ ?_)) ?_
          refine h_take 9 rfl (by decide +kernel) (by repeat (first | exact List.Sublist.refl _ | refine List.Sublist.cons _ ?_)) ?_
          refine h_take 10 rfl (by decide +kernel) (by repeat (first | exact List.Sublist.refl _ | refine List.Sublist.cons _ ?_)) ?_
          refine h_take 12 rfl (by decide +kernel) (by repeat (first | exact List.Sublist.refl _ | refine List.Sublist.cons _ ?_)) ?_
          refine h_storeAgg 13 (by decide +kernel) (by repeat (first | exact List.Sublist.refl _ | refine List.Sublist.cons _ ?_)) ?_
          refine h_end (by decide +kernel) ?_
          first
            | refine g_sel [0, 1, 3, 4, 5, 6, 7] (by decide) (g_mem (_, _, _, _) trivial (by repeat (first | exact trivial | refine ⟨rfl, ?_⟩)) (List.Sublist.refl _))
            | refine g_sel [1, 0, 3, 4, 5, 6, 7] (by decide) (g_mem (_, _, _, _) trivial (by repeat (first | exact trivial | refine ⟨rfl, ?_⟩)) (List.Sublist.refl _))
            | refine g_sel [2, 0, 3, 4, 5, 6, 7] (by decide) (g_mem (_, _, _, _) trivial (by repeat (first | exact trivial | refine ⟨rfl, ?_⟩)) (List.Sublist.refl _))
      · skip
        refine o_alloc 11 rfl (by repeat (first | exact List.Sublist.refl _ | refine List.Sublist.cons _ ?_)) fun _ _ => ?_
        refine h_one 4 (by decide +kernel) ?_
        (refine o_appendF 4 rfl rfl l (V := IntV) (fun x => [.int .i64 x]) (fun _ _ _ h => h.1) (fun _ => rfl) (fun y u hu => by simp only [List.mem_singleton] at hu; subst hu; rfl) (fun w hw => hls.keep keeps_int hw.chg) (by omega) (by omega) (fun _ => by simp only [List.set_cons_zero, List.set_cons_succ]; repeat (first | exact List.Sublist.refl _ | refine List.Sublist.cons _ ?_)) fun _ _ => ?_; rw [flat_one, List.nil_append, Nat.zero_add]; simp only [List.set_cons_zero, List.set_cons_succ])
        refine h_one 6 (by decide +kernel) ?_
        (refine o_appendF 6 rfl rfl m (V := IntV) (fun x => [.int .i64 x]) (fun _ _ _ h => h.1) (fun _ => rfl) (fun y u hu => by simp only [List.mem_singleton] at hu; subst hu; rfl) (fun w hw => hms.keep keeps_int hw.chg) (by omega) (by omega) (fun _ => by simp only [List.set_cons_zero, List.set_cons_succ]; repeat (first | exact List.Sublist.refl _ | refine List.Sublist.cons _ ?_)) fun _ _ => ?_; rw [flat_one, ← List.map_append]; simp only [List.set_cons_zero, List.set_cons_succ])
        refine h_one 7 (by decide +kernel) ?_
        refine o_callK (s := 1) (q := meetRes bad bl (l ++ m)) (V := IntV) (mk := fun v => .tuple #[v, .agg #[.int .i64 (er (l ++ m)).1, .int .i64 (er (l ++ m)).2]]) 7 rfl (by repeat (first | exact List.Sublist.refl _ | refine List.Sublist.cons _ ?_)) (fun w hw => hM (l ++ m) _ _ _ w hw.chg (by simp) (by omega) (hw.intsAt (l ++ m) (by simp) (by omega) fun x hx => (List.mem_append.1 hx).elim (hlin x) (hmin x))) fun _ _ _ => ?_
        refine h_take 8 rfl (by decide +kernel) (by repeat (first | exact List.Sublist.refl _ | refine List.Sublist.cons _ ?_)) ?_
        refine h_take 9 rfl (by decide +kernel) (by repeat (first | exact List.Sublist.refl _ | refine List.Sublist.cons _ ?_)) ?_
        refine h_take 10 rfl (by decide +kernel) (by repeat (first | exact List.Sublist.refl _ | refine List.Sublist.cons _ ?_)) ?_
        refine h_take 12 rfl (by decide +kernel) (by repeat (first | exact List.Sublist.refl _ | refine List.Sublist.cons _ ?_)) ?_
        refine h_storeAgg 13 (by decide +kernel) (by repeat (first | exact List.Sublist.refl _ | refine List.Sublist.cons _ ?_)) ?_
        refine h_end (by decide +kernel) ?_
        first
          | refine g_sel [0, 1, 3, 4, 5, 6, 7] (by decide) (g_mem (_, _, _, _) trivial (by repeat (first | exact trivial | refine ⟨rfl, ?_⟩)) (List.Sublist.refl _))
          | refine g_sel [1, 0, 3, 4, 5, 6, 7] (by decide) (g_mem (_, _, _, _) trivial (by repeat (first | exact trivial | refine ⟨rfl, ?_⟩)) (List.Sublist.refl _))
          | refine g_sel [2, 0, 3, 4, 5, 6, 7] (by decide) (g_mem (_, _, _, _) trivial (by repeat (first | exact trivial | refine ⟨rfl, ?_⟩)) (List.Sublist.refl _))
    · skip
      refine o_alloc 11 rfl (by repeat (first | exact List.Sublist.refl _ | refine List.Sublist.cons _ ?_)) fun _ _ => ?_
      refine h_one 2 (by decide +kernel) ?_
      refine o_build0 2 rfl (by repeat (first | exact List.Sublist.refl _ | refine List.Sublist.cons _ ?_)) fun _ _ => ?_
      refine h_one 4 (by decide +kernel) ?_
      (refine o_appendF 4 rfl rfl l (V := IntV) (fun x => [.int .i64 x]) (fun _ _ _ h => h.1) (fun _ => rfl) (fun y u hu => by simp only [List.mem_singleton] at hu; subst hu; rfl) (fun w hw => hls.keep keeps_int hw.chg) (by omega) (by omega) (fun _ => by simp only [List.set_cons_zero, List.set_cons_succ]; repeat (first | exact List.Sublist.refl _ | refine List.Sublist.cons _ ?_)) fun _ _ => ?_; rw [flat_one, List.nil_append, Nat.zero_add]; simp only [List.set_cons_zero, List.set_cons_succ])
      refine h_one 6 (by decide +kernel) ?_
      (refine o_appendF 6 rfl rfl m (V := IntV) (fun x => [.int .i64 x]) (fun _ _ _ h => h.1) (fun _ => rfl) (fun y u hu => by simp only [List.mem_singleton] at hu; subst hu; rfl) (fun w hw => hms.keep keeps_int hw.chg) (by omega) (by omega) (fun _ => by simp only [List.set_cons_zero, List.set_cons_succ]; repeat (first | exact List.Sublist.refl _ | refine List.Sublist.cons _ ?_)) fun _ _ => ?_; rw [flat_one, ← List.map_append]; simp only [List.set_cons_zero, List.set_cons_succ])
      refine h_one 7 (by decide +kernel) ?_
      refine o_callK (s := 1) (q := meetRes bad bl (l ++ m)) (V := IntV) (mk := fun v => .tuple #[v, .agg #[.int .i64 (er (l ++ m)).1, .int .i64 (er (l ++ m)).2]]) 7 rfl (by repeat (first | exact List.Sublist.refl _ | refine List.Sublist.cons _ ?_)) (fun w hw => hM (l ++ m) _ _ _ w hw.chg (by simp) (by omega) (hw.intsAt (l ++ m) (by simp) (by omega) fun x hx => (List.mem_append.1 hx).elim (hlin x) (hmin x))) fun _ _ _ => ?_
      refine h_take 8 rfl (by decide +kernel) (by repeat (first | exact List.Sublist.refl _ | refine List.Sublist.cons _ ?_)) ?_
      refine h_take 9 rfl (by decide +kernel) (by repeat (first | exact List.Sublist.refl _ | refine List.Sublist.cons _ ?_)) ?_
      refine h_take 10 rfl (by decide +kernel) (by repeat (first | exact List.Sublist.refl _ | refine List.Sublist.cons _ ?_)) ?_
      refine h_take 12 rfl (by decide +kernel) (by repeat (first | exact List.Sublist.refl _ | refine List.Sublist.cons _ ?_)) ?_
      refine h_storeAgg 13 (by decide +kernel) (by repeat (first | exact List.Sublist.refl _ | refine List.Sublist.cons _ ?_)) ?_
      refine h_end (by decide +kernel) ?_
      first
        | refine g_sel [0, 1, 3, 4, 5, 6, 7] (by decide) (g_mem (_, _, _, _) trivial (by repeat (first | exact trivial | refine ⟨rfl, ?_⟩)) (List.Sublist.refl _))
        | refine g_sel [1, 0, 3, 4, 5, 6, 7] (by decide) (g_mem (_, _, _, _) trivial (by repeat (first | exact trivial | refine ⟨rfl, ?_⟩)) (List.Sublist.refl _))
        | refine g_sel [2, 0, 3, 4, 5, 6, 7] (by decide) (g_mem (_, _, _, _) trivial (by repeat (first | exact trivial | refine ⟨rfl, ?_⟩)) (List.Sublist.refl _))
  rintro ⟨p14, za, zc, zp⟩ -
  simp only
  repeat (first | refine g_op rfl ?_ | refine g_then ?_ | refine g_region ?_ | refine g_seq ?_)
  have hfail : (er l).1 ≠ 0 ∨ (er m).1 ≠ 0 → (er (l ++ m)).1 ≠ 0 ∧ meetRes bad bl (l ++ m) = [] := by
    rw [← hE]
    intro h
    unfold meetErr meetRes at *
    cases bad
    · simp only [Bool.false_eq_true, ite_false, List.any_append] at h ⊢
      have : (l.any (outB bl.length) || m.any (outB bl.length)) = true := by
        rcases h with h | h
        · by_cases h2 : l.any (outB bl.length) = true
          · rw [h2]; rfl
          · rw [if_neg h2] at h; exact absurd rfl h
        · by_cases h2 : m.any (outB bl.length) = true
          · rw [h2, Bool.or_true]
          · rw [if_neg h2] at h; exact absurd rfl h
      rw [if_pos this, if_pos this]
      exact ⟨by simp, rfl⟩
    · exact ⟨hbad rfl, rfl⟩
  by_cases hcase : (er l).1 ≠ 0 ∨ (er m).1 ≠ 0
  · obtain ⟨hz, hr⟩ := hfail hcase
    refine Or.elim (Classical.em ((er l).1 = 0)) (fun h1 => ?_) (fun h1 => ?_)
    rw [show (!decide ((er l).1 = 0)) = false by simp [h1]]
    repeat (first | refine g_op rfl ?_ | refine g_then ?_ | refine g_nil ?_ | refine g_open ?_)
    rw [show (!decide ((er m).1 = 0)) = true by simp [hcase.resolve_left fun h => h h1]]
    repeat (first | refine g_op rfl ?_ | refine g_region ?_ | refine g_seq ?_ | refine g_condT ?_)
    rotate_left
    rw [show (!decide ((er l).1 = 0)) = true by simp [h1]]
    repeat (first | refine g_op rfl ?_ | refine g_then ?_ | refine g_nil ?_ | refine g_region ?_ | refine g_seq ?_ | refine g_pass rfl ?_ | refine g_condT ?_)
    rotate_left
    all_goals
      rw [show (!decide ((er (l ++ m)).1 = 0)) = true by simp [hz]]
      repeat (first | refine g_op rfl ?_ | refine g_then ?_ | refine g_nil ?_ | refine g_open ?_ | refine g_ret ?_ | refine g_thenRet ?_)
      rw [show decide (((meetRes bad bl (l ++ m)).length : Int) = 0) = true by rw [hr]; rfl]
      skip
      exact g_retV rfl rfl
  have h1 : (er l).1 = 0 := Classical.byContradiction fun h => hcase (.inl h)
  have h2 : (er m).1 = 0 := Classical.byContradiction fun h => hcase (.inr h)
  rw [show (!decide ((er l).1 = 0)) = false by simp [h1]]
  repeat (first | refine g_op rfl ?_ | refine g_then ?_ | refine g_nil ?_ | refine g_open ?_)
  rw [show (!decide ((er m).1 = 0)) = false by simp [h2]]
  repeat (first | refine g_then ?_ | refine g_seq ?_ | refine g_skip ?_ | refine g_condF ?_)
  have hb0 : bad = false := by
    cases bad
    · rfl
    · rw [← hE] at h1
      exact absurd h1 (hbad rfl)
  subst hb0
  obtain ⟨hok, hpos, i, X, rfl, hX, rfl⟩ := hgood rfl
  have hany : ∀ q : List Int, (er q).1 = 0 → q.any (outB X.blocks.length) = false := fun q h => by
    rw [← hE] at h
    cases ho : q.any (outB X.blocks.length)
    · rfl
    · simp [meetErr, ho] at h
  have hla := hany l h1
  have hma := hany m h2
  have hx0 : ∀ q : List Int, q.any (outB X.blocks.length) = false → meetErr false (askedL u (i : Nat)) X.blocks q = (0, 0) ∧ meetRes false X.blocks q = meetL X.blocks q := fun q h => by simp [meetErr, meetRes, h]
  have hlm : (l ++ m).any (outB X.blocks.length) = false := by rw [List.any_append, hla, hma]; rfl
  have hxl24 := meetRes_len (bad := false) (fun _ => hok) l h24
  have hxn : ∀ x ∈ meetRes false X.blocks l, ∃ c : Nat, x = c ∧ c < X.blocks.length := fun x hx => meetRes_in (bad := false) (fun _ => hok) hx
  have hxin : ∀ x ∈ meetRes false X.blocks l, inI x := fun x hx => by
    obtain ⟨c, rfl, hc⟩ := hxn x hx
    simp only [inI]; omega
  have hlx : (l ++ meetRes false X.blocks l).any (outB X.blocks.length) = false := by
    rw [List.any_append, hla, Bool.false_or]
    cases ho : (meetRes false X.blocks l).any (outB X.blocks.length)
    · rfl
    · obtain ⟨x, hx, h⟩ := List.any_eq_true.1 ho
      obtain ⟨c, rfl, hc⟩ := hxn x hx
      rcases outB_iff.1 h with h | h <;> omega
  have her : ∀ q : List Int, q.any (outB X.blocks.length) = false → er q = (0, 0) := fun q h => by rw [← hE]; exact (hx0 q h).1
  have hrl := her l hla
  have hrm := her m hma
  have hrz := her _ hlm
  have hrw := her _ hlx
  have exl := (hx0 l hla).2
  have eyl := (hx0 m hma).2
  have ezl := (hx0 _ hlm).2
  have hyl24 := meetRes_len (bad := false) (fun _ => hok) m h24
  have hzl24 := meetRes_len (bad := false) (fun _ => hok) (l ++ m) h24
  have hyn : ∀ x ∈ meetRes false X.blocks m, ∃ c : Nat, x = c ∧ c < X.blocks.length := fun x hx => meetRes_in (bad := false) (fun _ => hok) hx
  have ewl := (hx0 _ hlx).2
  rw [hrl, hrm, hrz]
  simp only [exl, eyl, ezl] at hxl24 hyl24 hzl24 hxn hyn hxin hlx hrw ewl ⊢
  have hwl : meetL X.blocks (l ++ meetL X.blocks l) = meetL X.blocks l := by
    unfold meetL
    congr 1
    refine List.filter_congr fun x _ => ?_
    rw [decide_eq_decide]
    constructor
    · intro h
      exact meets_again (fun y hy => (meetL_mem hok).1 hy) h
    · exact meets_mono fun y hy => List.mem_append_left _ hy
  have hzl : (sortL (meetL X.blocks l ++ meetL X.blocks m) X.blocks.length).map (fun x : Nat => (x : Int)) = meetL X.blocks (l ++ m) := by
    unfold meetL sortL
    congr 1
    refine List.filter_congr fun x _ => ?_
    rw [decide_eq_decide, List.mem_append, ← meetL, ← meetL, meetL_mem hok, meetL_mem hok, meets_union]
    constructor
    · rintro (⟨c, e, h⟩ | ⟨c, e, h⟩)
      · rw [show x = c by omega]; exact .inl h
      · rw [show x = c by omega]; exact .inr h
    · exact fun h => h.imp (fun h => ⟨x, rfl, h⟩) fun h => ⟨x, rfl, h⟩
  generalize meetL X.blocks l = xl at *
  generalize meetL X.blocks m = yl at *
  generalize meetL X.blocks (l ++ m) = zl at *
  refine g_fix (L' := [(13, .slice za zl.length zc), (14, .pointer (some ⟨p14, 0, none⟩)), (11, .slice ya yl.length yc), (12, .pointer (some ⟨p12, 0, none⟩)), (9, .slice xa xl.length xc), (10, .pointer (some ⟨p10, 0, none⟩)), (4, .pointer (some ⟨p4, 0, none⟩)), (1, .int .i64 i), (2, .slice ma l.length mc), (3, .slice na m.length nc)]) (by repeat (first | exact trivial | refine ⟨rfl, ?_⟩)) (List.Sublist.refl _) ?_
  have hW : ∀ (ma : Option Addr) (n mc : Nat) (w : World), Chg NoS w0 w → n = (l ++ xl).length → n ≤ 17592186044000 → SlAt w (.slice ma n mc) 1 (l ++ xl) IntV →
      RetK Tryd.prog 43 [.agg #[.slice ga gn gc, .slice fa fn fc], .int .i64 i, .slice ma n mc] w 1 xl IntV fun v => .tuple #[v, .agg #[.int .i64 0, .int .i64 0]] := fun ma n mc w h1 h2 h3 h4 => by
    have h := hM (l ++ xl) ma n mc w h1 h2 h3 h4
    rw [ewl, hwl, hrw] at h
    exact h
  refine g_drawX [Ent.box p14 [.int .i64 0, .int .i64 0] 29, (⟨zp, fun w => SlAt w (.slice za zl.length zc) 1 zl IntV⟩ : Ent), Ent.box p12 [.int .i64 0, .int .i64 0] 29, (⟨yp, fun w => SlAt w (.slice ya yl.length yc) 1 yl IntV⟩ : Ent), Ent.box p10 [.int .i64 0, .int .i64 0] 29, (⟨xp, fun w => SlAt w (.slice xa xl.length xc) 1 xl IntV⟩ : Ent), Ent.box p4 [.slice ga gn gc, .slice fa fn fc] 25] (fun _ : Nat × Option Addr × Nat × (Nat → Prop) => True) (fun x => [(15, .slice x.2.1 xl.length x.2.2.1), (16, .pointer (some ⟨x.1, 0, none⟩)), (13, .slice za zl.length zc), (14, .pointer (some ⟨p14, 0, none⟩)), (11, .slice ya yl.length yc), (12, .pointer (some ⟨p12, 0, none⟩)), (9, .slice xa xl.length xc), (10, .pointer (some ⟨p10, 0, none⟩)), (4, .pointer (some ⟨p4, 0, none⟩)), (1, .int .i64 i), (2, .slice ma l.length mc), (3, .slice na m.length nc)]) (fun x => Ent.box x.1 [.int .i64 0, .int .i64 0] 29 :: ⟨x.2.2.2, fun w => SlAt w (.slice x.2.1 xl.length x.2.2.1) 1 xl IntV⟩ :: [Ent.box p14 [.int .i64 0, .int .i64 0] 29, (⟨zp, fun w => SlAt w (.slice za zl.length zc) 1 zl IntV⟩ : Ent), Ent.box p12 [.int .i64 0, .int .i64 0] 29, (⟨yp, fun w => SlAt w (.slice ya yl.length yc) 1 yl IntV⟩ : Ent), Ent.box p10 [.int .i64 0, .int .i64 0] 29, (⟨xp, fun w => SlAt w (.slice xa xl.length xc) 1 xl IntV⟩ : Ent), Ent.box p4 [.slice ga gn gc, .slice fa fn fc] 25]) mixed (List.Sublist.refl _) ?_ ?_
  · skip
    refine h_take 0 rfl (by decide +kernel) (List.Sublist.refl _) ?_
    refine h_take 1 rfl (by decide +kernel) (List.Sublist.refl _) ?_
    refine h_take 3 rfl (by decide +kernel) (List.Sublist.refl _) ?_
    refine h_take 5 rfl (by decide +kernel) (List.Sublist.refl _) ?_
    refine h_two 2 11 (by decide +kernel) ?_ ?_
    · skip
      refine o_build0 2 rfl (by repeat (first | exact List.Sublist.refl _ | refine List.Sublist.cons _ ?_)) fun _ _ => ?_
      refine h_two 4 11 (by decide +kernel) ?_ ?_
      · skip
        (refine o_appendF 4 rfl rfl l (V := IntV) (fun x => [.int .i64 x]) (fun _ _ _ h => h.1) (fun _ => rfl) (fun y u hu => by simp only [List.mem_singleton] at hu; subst hu; rfl) (fun w hw => hls.keep keeps_int hw.chg) (by omega) (by omega) (fun _ => by simp only [List.set_cons_zero, List.set_cons_succ]; repeat (first | exact List.Sublist.refl _ | refine List.Sublist.cons _ ?_)) fun _ _ => ?_; rw [flat_one, List.nil_append, Nat.zero_add]; simp only [List.set_cons_zero, List.set_cons_succ])
        refine h_two 6 11 (by decide +kernel) ?_ ?_
        · skip
          (refine o_appendF 6 rfl rfl xl (V := IntV) (fun x => [.int .i64 x]) (fun _ _ _ h => h.1) (fun _ => rfl) (fun y u hu => by simp only [List.mem_singleton] at hu; subst hu; rfl) (fun w hw => hw.ok (⟨xp, fun w => SlAt w (.slice xa xl.length xc) 1 xl IntV⟩ : Ent) (by repeat (first | exact List.mem_cons_self | refine List.mem_cons_of_mem _ ?_)) w (Nat.le_refl _) fun _ _ => rfl) (by omega) (by omega) (fun _ => by simp only [List.set_cons_zero, List.set_cons_succ]; repeat (first | exact List.Sublist.refl _ | refine List.Sublist.cons _ ?_)) fun _ _ => ?_; rw [flat_one, ← List.map_append]; simp only [List.set_cons_zero, List.set_cons_succ])
          refine h_two 7 11 (by decide +kernel) ?_ ?_
          · skip
            refine o_callK (s := 1) (q := xl) (V := IntV) (mk := fun v => .tuple #[v, .agg #[.int .i64 0, .int .i64 0]]) 7 rfl (by repeat (first | exact List.Sublist.refl _ | refine List.Sublist.cons _ ?_)) (fun w hw => hW _ _ _ w hw.chg (by simp) (by omega) (hw.intsAt (l ++ xl) (by simp) (by omega) fun x hx => (List.mem_append.1 hx).elim (hlin x) (hxin x))) fun _ _ _ => ?_
            refine h_take 8 rfl (by decide +kernel) (by repeat (first | exact List.Sublist.refl _ | refine List.Sublist.cons _ ?_)) ?_
            refine h_take 9 rfl (by decide +kernel) (by repeat (first | exact List.Sublist.refl _ | refine List.Sublist.cons _ ?_)) ?_
            refine h_take 10 rfl (by decide +kernel) (by repeat (first | exact List.Sublist.refl _ | refine List.Sublist.cons _ ?_)) ?_
            refine h_one 11 (by decide +kernel) ?_
            refine o_alloc 11 rfl (by repeat (first | exact List.Sublist.refl _ | refine List.Sublist.cons _ ?_)) fun _ _ => ?_
            refine h_take 12 rfl (by decide +kernel) (by repeat (first | exact List.Sublist.refl _ | refine List.Sublist.cons _ ?_)) ?_
            refine h_storeAgg 13 (by decide +kernel) (by repeat (first | exact List.Sublist.refl _ | refine List.Sublist.cons _ ?_)) ?_
            refine h_end (by decide +kernel) ?_
            first
              | refine g_sel [0, 1, 3, 4, 5, 6, 7, 8, 9] (by decide) (g_mem (_, _, _, _) trivial (by repeat (first | exact trivial | refine ⟨rfl, ?_⟩)) (List.Sublist.refl _))
              | refine g_sel [1, 0, 3, 4, 5, 6, 7, 8, 9] (by decide) (g_mem (_, _, _, _) trivial (by repeat (first | exact trivial | refine ⟨rfl, ?_⟩)) (List.Sublist.refl _))
              | refine g_sel [2, 0, 3, 4, 5, 6, 7, 8, 9] (by decide) (g_mem (_, _, _, _) trivial (by repeat (first | exact trivial | refine ⟨rfl, ?_⟩)) (List.Sublist.refl _))
          · skip
            refine o_alloc 11 rfl (by repeat (first | exact List.Sublist.refl _ | refine List.Sublist.cons _ ?_)) fun _ _ => ?_
            refine h_one 7 (by decide +kernel) ?_
            refine o_callK (s := 1) (q := xl) (V := IntV) (mk := fun v => .tuple #[v, .agg #[.int .i64 0, .int .i64 0]]) 7 rfl (by repeat (first | exact List.Sublist.refl _ | refine List.Sublist.cons _ ?_)) (fun w hw => hW _ _ _ w hw.chg (by simp) (by omega) (hw.intsAt (l ++ xl) (by simp) (by omega) fun x hx => (List.mem_append.1 hx).elim (hlin x) (hxin x))) fun _ _ _ => ?_
            refine h_take 8 rfl (by decide +kernel) (by repeat (first | exact List.Sublist.refl _ | refine List.Sublist.cons _ ?_)) ?_
            refine h_take 9 rfl (by decide +kernel) (by repeat (first | exact List.Sublist.refl _ | refine List.Sublist.cons _ ?_)) ?_
            refine h_take 10 rfl (by decide +kernel) (by repeat (first | exact List.Sublist.refl _ | refine List.Sublist.cons _ ?_)) ?_
            refine h_take 12 rfl (by decide +kernel) (by repeat (first | exact List.Sublist.refl _ | refine List.Sublist.cons _ ?_)) ?_
            refine h_storeAgg 13 (by decide +kernel) (by repeat (first | exact List.Sublist.refl _ | refine List.Sublist.cons _ ?_)) ?_
            refine h_end (by decide +kernel) ?_
            first
              | refine g_sel [0, 1, 3, 4, 5, 6, 7, 8, 9] (by decide) (g_mem (_, _, _, _) trivial (by repeat (first | exact trivial | refine ⟨rfl, ?_⟩)) (List.Sublist.refl _))
              | refine g_sel [1, 0, 3, 4, 5, 6, 7, 8, 9] (by decide) (g_mem (_, _, _, _) trivial (by repeat (first | exact trivial | refine ⟨rfl, ?_⟩)) (List.Sublist.refl _))
              | refine g_sel [2, 0, 3, 4, 5, 6, 7, 8, 9] (by decide) (g_mem (_, _, _, _) trivial (by repeat (first | exact trivial | refine ⟨rfl, ?_⟩)) (List.Sublist.refl _))
        · skip
          refine o_alloc 11 rfl (by repeat (first | exact List.Sublist.refl _ | refine List.Sublist.cons _ ?_)) fun _ _ => ?_
          refine h_one 6 (by decide +kernel) ?_
          (refine o_appendF 6 rfl rfl xl (V := IntV) (fun x => [.int .i64 x]) (fun _ _ _ h => h.1) (fun _ => rfl) (fun y u hu => by simp only [List.mem_singleton] at hu; subst hu; rfl) (fun w hw => hw.ok (⟨xp, fun w => SlAt w (.slice xa xl.length xc) 1 xl IntV⟩ : Ent) (by repeat (first | exact List.mem_cons_self | refine List.mem_cons_of_mem _ ?_)) w (Nat.le_refl _) fun _ _ => rfl) (by omega) (by omega) (fun _ => by simp only [List.set_cons_zero, List.set_cons_succ]; repeat (first | exact List.Sublist.refl _ | refine List.Sublist.cons _ ?_)) fun _ _ => ?_; rw [flat_one, ← List.map_append]; simp only [List.set_cons_zero, List.set_cons_succ])
          refine h_one 7 (by decide +kernel) ?_
          refine o_callK (s := 1) (q := xl) (V := IntV) (mk := fun v => .tuple #[v, .agg #[.int .i64 0, .int .i64 0]]) 7 rfl (by repeat (first | exact List.Sublist.refl _ | refine List.Sublist.cons _ ?_)) (fun w hw => hW _ _ _ w hw.chg (by simp) (by omega) (hw.intsAt (l ++ xl) (by simp) (by omega) fun x hx => (List.mem_append.1 hx).elim (hlin x) (hxin x))) fun _ _ _ => ?_
          refine h_take 8 rfl (by decide +kernel) (by repeat (first | exact List.Sublist.refl _ | refine List.Sublist.cons _ ?_)) ?_
          refine h_take 9 rfl (by decide +kernel) (by repeat (first | exact List.Sublist.refl _ | refine List.Sublist.cons _ ?_)) ?_
          refine h_take 10 rfl (by decide +kernel) (by repeat (first | exact List.Sublist.refl _ | refine List.Sublist.cons _ ?_)) ?_
          refine h_take 12 rfl (by decide +kernel) (by repeat (first | exact List.Sublist.refl _ | refine List.Sublist.cons _ ?_)) ?_
          refine h_storeAgg 13 (by decide +kernel) (by repeat (first | exact List.Sublist.refl _ | refine List.Sublist.cons _ ?_)) ?_
          refine h_end (by decide +kernel) ?_
          first
            | refine g_sel [0, 1, 3, 4, 5, 6, 7, 8, 9] (by decide) (g_mem (_, _, _, _) trivial (by repeat (first | exact trivial | refine ⟨rfl, ?_⟩)) (List.Sublist.refl _))
            | refine g_sel [1, 0, 3, 4, 5, 6, 7, 8, 9] (by decide) (g_mem (_, _, _, _) trivial (by repeat (first | exact trivial | refine ⟨rfl, ?_⟩)) (List.Sublist.refl _))
            | refine g_sel [2, 0, 3, 4, 5, 6, 7, 8, 9] (by decide) (g_mem (_, _, _, _) trivial (by repeat (first | exact trivial | refine ⟨rfl, ?_⟩)) (List.Sublist.refl _))
      · skip
        refine o_alloc 11 rfl (by repeat (first | exact List.Sublist.refl _ | refine List.Sublist.cons _ ?_)) fun _ _ => ?_
        refine h_one 4 (by decide +kernel) ?_
        (refine o_appendF 4 rfl rfl l (V := IntV) (fun x => [.int .i64 x]) (fun _ _ _ h => h.1) (fun _ => rfl) (fun y u hu => by simp only [List.mem_singleton] at hu; subst hu; rfl) (fun w hw => hls.keep keeps_int hw.chg) (by omega) (by omega) (fun _ => by simp only [List.set_cons_zero, List.set_cons_succ]; repeat (first | exact List.Sublist.refl _ | refine List.Sublist.cons _ ?_)) fun _ _ => ?_; rw [flat_one, List.nil_append, Nat.zero_add]; simp only [List.set_cons_zero, List.set_cons_succ])
        refine h_one 6 (by decide +kernel) ?_
        (refine o_appendF 6 rfl rfl xl (V := IntV) (fun x => [.int .i64 x]) (fun _ _ _ h => h.1) (fun _ => rfl) (fun y u hu => by simp only [List.mem_singleton] at hu; subst hu; rfl) (fun w hw => hw.ok (⟨xp, fun w => SlAt w (.slice xa xl.length xc) 1 xl IntV⟩ : Ent) (by repeat (first | exact List.mem_cons_self | refine List.mem_cons_of_mem _ ?_)) w (Nat.le_refl _) fun _ _ => rfl) (by omega) (by omega) (fun _ => by simp only [List.set_cons_zero, List.set_cons_succ]; repeat (first | exact List.Sublist.refl _ | refine List.Sublist.cons _ ?_)) fun _ _ => ?_; rw [flat_one, ← List.map_append]; simp only [List.set_cons_zero, List.set_cons_succ])
        refine h_one 7 (by decide +kernel) ?_
        refine o_callK (s := 1) (q := xl) (V := IntV) (mk := fun v => .tuple #[v, .agg #[.int .i64 0, .int .i64 0]]) 7 rfl (by repeat (first | exact List.Sublist.refl _ | refine List.Sublist.cons _ ?_)) (fun w hw => hW _ _ _ w hw.chg (by simp) (by omega) (hw.intsAt (l ++ xl) (by simp) (by omega) fun x hx => (List.mem_append.1 hx).elim (hlin x) (hxin x))) fun _ _ _ => ?_
        refine h_take 8 rfl (by decide +kernel) (by repeat (first | exact List.Sublist.refl _ | refine List.Sublist.cons _ ?_)) ?_
        refine h_take 9 rfl (by decide +kernel) (by repeat (first | exact List.Sublist.refl _ | refine List.Sublist.cons _ ?_)) ?_
        refine h_take 10 rfl (by decide +kernel) (by repeat (first | exact List.Sublist.refl _ | refine List.Sublist.cons _ ?_)) ?_
        refine h_take 12 rfl (by decide +kernel) (by repeat (first | exact List.Sublist.refl _ | refine List.Sublist.cons _ ?_)) ?_
        refine h_storeAgg 13 (by decide +kernel) (by repeat (first | exact List.Sublist.refl _ | refine List.Sublist.cons _ ?_)) ?_
        refine h_end (by decide +kernel) ?_
        first
          | refine g_sel [0, 1, 3, 4, 5, 6, 7, 8, 9] (by decide) (g_mem (_, _, _, _) trivial (by repeat (first | exact trivial | refine ⟨rfl, ?_⟩)) (List.Sublist.refl _))
          | refine g_sel [1, 0, 3, 4, 5, 6, 7, 8, 9] (by decide) (g_mem (_, _, _, _) trivial (by repeat (first | exact trivial | refine ⟨rfl, ?_⟩)) (List.Sublist.refl _))
          | refine g_sel [2, 0, 3, 4, 5, 6, 7, 8, 9] (by decide) (g_mem (_, _, _, _) trivial (by repeat (first | exact trivial | refine ⟨rfl, ?_⟩)) (List.Sublist.refl _))
    · skip
      refine o_alloc 11 rfl (by repeat (first | exact List.Sublist.refl _ | refine List.Sublist.cons _ ?_)) fun _ _ => ?_
      refine h_one 2 (by decide +kernel) ?_
      refine o_build0 2 rfl (by repeat (first | exact List.Sublist.refl _ | refine List.Sublist.cons _ ?_)) fun _ _ => ?_
      refine h_one 4 (by decide +kernel) ?_
      (refine o_appendF 4 rfl rfl l (V := IntV) (fun x => [.int .i64 x]) (fun _ _ _ h => h.1) (fun _ => rfl) (fun y u hu => by simp only [List.mem_singleton] at hu; subst hu; rfl) (fun w hw => hls.keep keeps_int hw.chg) (by omega) (by omega) (fun _ => by simp only [List.set_cons_zero, List.set_cons_succ]; repeat (first | exact List.Sublist.refl _ | refine List.Sublist.cons _ ?_)) fun _ _ => ?_; rw [flat_one, List.nil_append, Nat.zero_add]; simp only [List.set_cons_zero, List.set_cons_succ])
      refine h_one 6 (by decide +kernel) ?_
      (refine o_appendF 6 rfl rfl xl (V := IntV) (fun x => [.int .i64 x]) (fun _ _ _ h => h.1) (fun _ => rfl) (fun y u hu => by simp only [List.mem_singleton] at hu; subst hu; rfl) (fun w hw => hw.ok (⟨xp, fun w => SlAt w (.slice xa xl.length xc) 1 xl IntV⟩ : Ent) (by repeat (first | exact List.mem_cons_self | refine List.mem_cons_of_mem _ ?_)) w (Nat.le_refl _) fun _ _ => rfl) (by omega) (by omega) (fun _ => by simp only [List.set_cons_zero, List.set_cons_succ]; repeat (first | exact List.Sublist.refl _ | refine List.Sublist.cons _ ?_)) fun _ _ => ?_; rw [flat_one, ← List.map_append]; simp only [List.set_cons_zero, List.set_cons_succ])
      refine h_one 7 (by decide +kernel) ?_
      refine o_callK (s := 1) (q := xl) (V := IntV) (mk := fun v => .tuple #[v, .agg #[.int .i64 0, .int .i64 0]]) 7 rfl (by repeat (first | exact List.Sublist.refl _ | refine List.Sublist.cons _ ?_)) (fun w hw => hW _ _ _ w hw.chg (by simp) (by omega) (hw.intsAt (l ++ xl) (by simp) (by omega) fun x hx => (List.mem_append.1 hx).elim (hlin x) (hxin x))) fun _ _ _ => ?_
      refine h_take 8 rfl (by decide +kernel) (by repeat (first | exact List.Sublist.refl _ | refine List.Sublist.cons _ ?_)) ?_
      refine h_take 9 rfl (by decide +kernel) (by repeat (first | exact List.Sublist.refl _ | refine List.Sublist.cons _ ?_)) ?_
      refine h_take 10 rfl (by decide +kernel) (by repeat (first | exact List.Sublist.refl _ | refine List.Sublist.cons _ ?_)) ?_
      refine h_take 12 rfl (by decide +kernel) (by repeat (first | exact List.Sublist.refl _ | refine List.Sublist.cons _ ?_)) ?_
      refine h_storeAgg 13 (by decide +kernel) (by repeat (first | exact List.Sublist.refl _ | refine List.Sublist.cons _ ?_)) ?_
      refine h_end (by decide +kernel) ?_
      first
        | refine g_sel [0, 1, 3, 4, 5, 6, 7, 8, 9] (by decide) (g_mem (_, _, _, _) trivial (by repeat (first | exact trivial | refine ⟨rfl, ?_⟩)) (List.Sublist.refl _))
        | refine g_sel [1, 0, 3, 4, 5, 6, 7, 8, 9] (by decide) (g_mem (_, _, _, _) trivial (by repeat (first | exact trivial | refine ⟨rfl, ?_⟩)) (List.Sublist.refl _))
        | refine g_sel [2, 0, 3, 4, 5, 6, 7, 8, 9] (by decide) (g_mem (_, _, _, _) trivial (by repeat (first | exact trivial | refine ⟨rfl, ?_⟩)) (List.Sublist.refl _))
  rintro ⟨p16, wa, wc, wp⟩ -
  simp only
  repeat (first | refine g_op rfl ?_ | refine g_then ?_ | refine g_region ?_ | refine g_seq ?_ | refine g_open ?_)
  rw [show (!decide ((0 : Int) = 0)) = false from rfl]
  repeat (first | refine g_op rfl ?_ | refine g_open ?_)
  rw [show decide ((i : Int) < 0) = false by simp]
  repeat (first | refine g_op rfl ?_ | refine g_then ?_ | refine g_nil ?_)
  have hil : i < fn := by rw [hfn]; exact (List.getElem?_eq_some_iff.1 hX).1
  rw [show decide ((fn : Int) ≤ (i : Int)) = false by simp; omega]
  repeat (first | refine g_then ?_ | refine g_region ?_ | refine g_seq ?_ | refine g_skip ?_ | refine g_condF ?_)
  have had : AddrIs fa fb fo := ⟨hfa (ne_of_get hX)⟩
  have hli : LtIs i fn := ⟨hil⟩
  obtain ⟨cs, hcs, bv, rfl, hpi, hri, hbv⟩ := hfel i X hX
  have hci : CellsIs w0 fb (fo + i * 4) _ := ⟨hcs⟩
  have hbv0 := hbv
  obtain ⟨ba, bn, bc, _, _, rfl, hbn, _⟩ := hbv
  refine g_callK (s := 4) (l := ringU.funcs) (V := FuncV) (mk := fun v => .agg #[.slice none 0 0, v]) rfl (fun w hw => ring_c w) fun ra rc rp => ?_
  repeat (refine g_build1 rfl rfl fun _ _ => ?_)
  rename_i bt _
  refine g_callK (s := 1) (l := meetL ringB [1]) (V := IntV) (mk := fun v => .tuple #[v, .agg #[.int .i64 0, .int .i64 0]]) rfl (fun w hw => meetK ringU ring_light 0 (congrArg Prod.fst ring_asked) ringF rfl ring_good (by decide) (by rw [ring_check]) (some ⟨bt, 0, none⟩) 1 [1] (by simp) (by decide) _ _ w (nil_sl _ _ _) (hw.ok (⟨rp, fun w => SlAt w (.slice ra ringU.funcs.length rc) 4 ringU.funcs FuncV⟩ : Ent) (by repeat (first | exact List.mem_cons_self | refine List.mem_cons_of_mem _ ?_)) w (Nat.le_refl _) fun _ _ => rfl) (hw.intsAt [1] rfl (show 1 ≤ 140737488355328 by omega) fun x hx => by simp at hx; subst hx; simp [inI]) (hways.keep hw.chg)) fun ja jc jp => ?_
  rw [ring_meet, show ([1] : List Int).length = 1 from rfl]
  repeat (first | refine g_op rfl ?_ | refine g_then ?_ | refine g_nil ?_ | refine g_region ?_ | refine g_seq ?_ | refine g_open ?_ | refine g_alloc rfl fun _ _ => ?_ | refine g_storeAgg ?_ | refine g_build1 rfl rfl fun _ _ => ?_)
  rename_i p18 _
  rename_i bt2 _
  try refine g_open ?_
  refine g_callV rfl (fun w hw => ints_c _ _ [(1 : Int)] [(1 : Int)] w (hw.ok (⟨jp, fun w => SlAt w (.slice ja 1 jc) 1 [(1 : Int)] IntV⟩ : Ent) (by repeat (first | exact List.mem_cons_self | refine List.mem_cons_of_mem _ ?_)) w (Nat.le_refl _) fun _ _ => rfl) (hw.intsAt [1] rfl (show 1 ≤ 140737488355328 by omega) fun x hx => by simp at hx; subst hx; simp [inI])) ?_
  rw [show decide (([1] : List Int) = [1]) = true by simp]
  skip
  try rw [show decide ((0 : Int) = 0) = true from rfl]
  repeat (first | refine g_op rfl ?_ | refine g_open ?_)
  try refine g_open ?_
  refine g_build0 rfl fun eb _ => ?_
  repeat (first | refine g_op rfl ?_ | refine g_open ?_)
  try refine g_open ?_
  refine g_appendF rfl rfl xl (V := IntV) (fun x => [.int .i64 x]) (fun _ _ _ h => h.1) (fun _ => rfl) (fun y u hu => by simp only [List.mem_singleton] at hu; subst hu; rfl) (fun w hw => hw.ok (⟨xp, fun w => SlAt w (.slice xa xl.length xc) 1 xl IntV⟩ : Ent) (by repeat (first | exact List.mem_cons_self | refine List.mem_cons_of_mem _ ?_)) w (Nat.le_refl _) fun _ _ => rfl) (by omega) (by omega) fun a1 c1 => ?_
  rw [flat_one, List.nil_append, Nat.zero_add]
  repeat (first | refine g_op rfl ?_ | refine g_open ?_)
  try refine g_open ?_
  refine g_appendF rfl rfl yl (V := IntV) (fun x => [.int .i64 x]) (fun _ _ _ h => h.1) (fun _ => rfl) (fun y u hu => by simp only [List.mem_singleton] at hu; subst hu; rfl) (fun w hw => hw.ok (⟨yp, fun w => SlAt w (.slice ya yl.length yc) 1 yl IntV⟩ : Ent) (by repeat (first | exact List.mem_cons_self | refine List.mem_cons_of_mem _ ?_)) w (Nat.le_refl _) fun _ _ => rfl) (by omega) (by omega) fun a2 c2 => ?_
  rw [flat_one, ← List.map_append]
  repeat (first | refine g_op rfl ?_ | refine g_open ?_)
  try refine g_open ?_
  have hbn' : (bn : Int) = ((X.blocks.length : Nat) : Int) := by rw [hbn]
  have hyin : ∀ x ∈ yl, inI x := fun x hx => by
    obtain ⟨c, rfl, hc⟩ := hyn x hx
    simp only [inI]; omega
  refine g_callE (val := fun x : Option Addr × Nat => .slice x.1 (sortL (xl ++ yl) X.blocks.length).length x.2) (E := fun x => [Ent.vec x.1 (sortL (xl ++ yl) X.blocks.length).length x.2 3 1 ((sortL (xl ++ yl) X.blocks.length).map intN)]) (φ := fun _ => True) rfl (fun w hw => by rw [hbn']; exact sorted_c _ ⟨_, _, _, rfl⟩ (xl ++ yl) X.blocks.length (by omega) w (hw.intsAt (xl ++ yl) (by simp) (by omega) fun x hx => (List.mem_append.1 hx).elim (hxin x) (hyin x))) fun y _ => ?_
  obtain ⟨sa, sc⟩ := y
  simp only [List.cons_append, List.nil_append]
  have hsl : (sortL (xl ++ yl) X.blocks.length).length = zl.length := by rw [← hzl, List.length_map]
  have hsm : (sortL (xl ++ yl) X.blocks.length).map intN = zl.map (.int .i64) := by rw [← hzl, List.map_map]; rfl
  rw [hsl, hsm]
  have hzin : ∀ x ∈ zl, inI x := fun x hx => by
    rw [← hzl] at hx
    obtain ⟨c, hc, rfl⟩ := List.mem_map.1 hx
    have := List.mem_range.1 (List.mem_filter.1 hc).1
    simp only [inI]; omega
  repeat (refine g_open ?_)
  try refine g_open ?_
  refine g_callV rfl (fun w hw => ints_c _ _ zl zl w (hw.ok (⟨zp, fun w => SlAt w (.slice za zl.length zc) 1 zl IntV⟩ : Ent) (by repeat (first | exact List.mem_cons_self | refine List.mem_cons_of_mem _ ?_)) w (Nat.le_refl _) fun _ _ => rfl) (hw.intsAt zl rfl (by omega) hzin)) ?_
  rw [show decide (zl = zl) = true by simp]
  repeat (first | refine g_op rfl ?_ | refine g_open ?_)
  try refine g_open ?_
  refine g_callV rfl (fun w hw => ints_c _ _ xl xl w (hw.ok (⟨wp, fun w => SlAt w (.slice wa xl.length wc) 1 xl IntV⟩ : Ent) (by repeat (first | exact List.mem_cons_self | refine List.mem_cons_of_mem _ ?_)) w (Nat.le_refl _) fun _ _ => rfl) (hw.ok (⟨xp, fun w => SlAt w (.slice xa xl.length xc) 1 xl IntV⟩ : Ent) (by repeat (first | exact List.mem_cons_self | refine List.mem_cons_of_mem _ ?_)) w (Nat.le_refl _) fun _ _ => rfl)) ?_
  rw [show decide (xl = xl) = true by simp]
  repeat (first | refine g_op rfl ?_ | refine g_then ?_ | refine g_nil ?_ | refine g_ret ?_)
  exact g_retV rfl rfl
end Go.Proofs.YtoahickmkkcneaaDoor

/- From the form's reading of a unit, a number and two slices of numbers, together of bounded bulk, to the walks' facts. -/
namespace Go.Proofs.YtoahickmkkcneaaDoor
open Go Go.RowKit Go.ChangeShapes Go.WideShapes Go.ChangeAt
set_option maxRecDepth 100000

theorem bulk_one {H : Type} (d : DataW H) : 1 ≤ Rows.uptoBulk d := by
  cases d with
  | lit l => cases l <;> simp [Rows.uptoBulk]
  | nil => simp [Rows.uptoBulk]
  | ptr d => simp [Rows.uptoBulk]
  | slice elems spare => simp [Rows.uptoBulk]
  | agg parts => simp [Rows.uptoBulk]
  | iface t d => simp [Rows.uptoBulk]
  | map entries => simp [Rows.uptoBulk]
  | held h => simp [Rows.uptoBulk]
theorem bulk_part {H : Type} {d : DataW H} {l : List (DataW H)} (h : d ∈ l) : Rows.uptoBulk d ≤ Rows.uptoBulkAll l := by
  induction l with
  | nil => cases h
  | cons x r ih =>
    simp only [Rows.uptoBulkAll]
    cases List.mem_cons.1 h with
    | inl e => subst e; omega
    | inr e => have := ih e; omega
theorem bulk_len {H : Type} (l : List (DataW H)) : l.length ≤ Rows.uptoBulkAll l := by
  induction l with
  | nil => simp [Rows.uptoBulkAll]
  | cons x r ih => have := bulk_one x; simp only [Rows.uptoBulkAll, List.length_cons]; omega
/-- a slice of numbers is no longer than what it reads as is large -/
theorem o_intsU {H : Type} {enc : TypeId × Value → H} {w : World} {base : Nat} {spare : Nat → Bool} {held : Bool} {fuel : Nat} {v : Value} {x : DataW H × List MemPlace} (h : DataW.trod enc Tryd.prog w base spare held fuel 35 [v] = some x) (hz : Small Tryd.prog 35 x.1) :
    ∃ (a : Option Addr) (c : Nat) (l : List Int), v = .slice a l.length c ∧ SlAt w v 1 l IntV ∧ l.length ≤ Rows.uptoBulk x.1 := by
  obtain ⟨l, hs⟩ := o_ints h hz
  have hs0 := hs
  obtain ⟨a, n, c, b, o, rfl, rfl, _⟩ := hs
  refine ⟨a, c, l, rfl, hs0, ?_⟩
  rcases Deep.open_slice Tryd.underlying35 h with ⟨hcs, _⟩ | ⟨a', len, cap, m, n', D, Pl, hcs, _, hl, hm, hmm, rfl, _⟩
  · simp only [List.cons.injEq, and_true, Value.slice.injEq] at hcs
    rw [hcs.2.1]; omega
  · simp only [List.cons.injEq, and_true, Value.slice.injEq] at hcs
    obtain ⟨_, rfl, _⟩ := hcs
    have := bulk_len (H := H) ((List.range l.length).map D)
    rw [List.length_map, List.length_range] at this
    simp only [Rows.uptoBulk]
    omega
/-- a unit, a number and two slices of numbers, as a law gets them -/
theorem open_uill {H : Type} {enc : TypeId × Value → H} {W : World} {args : Array Value} {ds : List (DataW H)} {p : List MemPlace} {base : Nat} {params : Array TypeId} (hp : params = #[25, 3, 35, 35])
    (h1 : ∀ (j : Nat) t v, params[j]? = some t → args[j]? = some v → Value.okWide Tryd.prog W .any base t v)
    (hA : DataW.TrodAll enc Tryd.prog W 0 (fun _ => true) true [25, 3, 35, 35] args.toList ds p) (hz : ∀ k ∈ DataW.weightsEach Tryd.prog [25, 3, 35, 35] ds, k ≤ reachBytes) :
    ∃ (u : LUnit) (g fs : Value) (k : Int) (a : Option Addr) (c : Nat) (l : List Int) (a' : Option Addr) (c' : Nat) (m : List Int), args = #[.agg #[g, fs], .int .i64 k, .slice a l.length c, .slice a' m.length c'] ∧ SlAt W g 3 u.globals GlobalV ∧ SlAt W fs 4 u.funcs FuncV ∧ inI k ∧ SlAt W (.slice a l.length c) 1 l IntV ∧ SlAt W (.slice a' m.length c') 1 m IntV ∧ l.length ≤ Rows.uptoBulkAll ds ∧ m.length ≤ Rows.uptoBulkAll ds := by
  subst hp
  obtain ⟨v0, vs0, d0, ds0, p0, q0, hargs, rfl, rfl, h0, r0⟩ := trodAll_cons hA
  obtain ⟨v1, vs1, d1, ds1, p1, q1, rfl, rfl, rfl, h1', r1⟩ := trodAll_cons r0
  obtain ⟨v2, vs2, d2, ds2, p2, q2, rfl, rfl, rfl, h2', r2⟩ := trodAll_cons r1
  obtain ⟨v3, vs3, d3, ds3, p3, q3, rfl, rfl, rfl, h3', r3⟩ := trodAll_cons r2
  obtain ⟨rfl, rfl, rfl⟩ := trodAll_nil r3
  obtain rfl : args = #[v0, v1, v2, v3] := by cases args; simp_all
  obtain ⟨cs0, rfl, _⟩ := okWide_struct Tryd.underlying25 (h1 0 25 v0 rfl rfl)
  obtain ⟨f0, k0⟩ := h0
  obtain ⟨f1, k1⟩ := h1'
  obtain ⟨f2, k2⟩ := h2'
  obtain ⟨f3, k3⟩ := h3'
  obtain ⟨cs0⟩ := cs0
  have hz0 : Small Tryd.prog 25 d0 := fun k hk => hz k (mem_weightsEach (i := 0) rfl rfl hk)
  have hz2 : Small Tryd.prog 35 d2 := fun k hk => hz k (mem_weightsEach (i := 2) rfl rfl hk)
  have hz3 : Small Tryd.prog 35 d3 := fun k hk => hz k (mem_weightsEach (i := 3) rfl rfl hk)
  obtain ⟨u, g, f, e0, hg, hf⟩ := o_unit k0 hz0
  have hv1 : v1.cells = #[v1] := by
    obtain ⟨n, rfl, _⟩ := okWide_int Tryd.underlying3 (h1 1 3 v1 rfl rfl)
    rfl
  have hv2 : v2.cells = #[v2] := by
    obtain ⟨_, _, _, rfl⟩ := okWide_slice Tryd.underlying35 (h1 2 35 v2 rfl rfl)
    rfl
  have hv3 : v3.cells = #[v3] := by
    obtain ⟨_, _, _, rfl⟩ := okWide_slice Tryd.underlying35 (h1 3 35 v3 rfl rfl)
    rfl
  obtain ⟨n, e1, hn⟩ := o_int k1
  rw [hv2] at k2
  rw [hv3] at k3
  obtain ⟨a, c, l, e2, hs, hl⟩ := o_intsU (x := (d2, _)) k2 hz2
  obtain ⟨a', c', m, e3, hs', hl'⟩ := o_intsU (x := (d3, _)) k3 hz3
  simp only [Value.cells] at e0
  subst e0
  rw [hv1] at e1
  simp only [List.cons.injEq, and_true] at e1
  subst e1 e2 e3
  have b2 := bulk_part (d := d2) (l := [d0, d1, d2, d3]) (by simp)
  have b3 := bulk_part (d := d3) (l := [d0, d1, d2, d3]) (by simp)
  exact ⟨u, g, f, n, a, c, l, a', c', m, rfl, hg, hf, hn, hs, hs', by simp only at hl; omega, by simp only at hl'; omega⟩
def argsUILL : Array Value := #[.agg #[.slice none 0 0, .slice none 0 0], .int .i64 0, .slice none 0 0, .slice none 0 0]
end Go.Proofs.YtoahickmkkcneaaDoor
