/- Texts joined: MeetL DoorC. -/
import Derived.Test.YtoahickmkkcneaaDoorGE
import Derived.Test.YtoahickmkkcneaaDoorGH
import Derived.Test.YtoahickmkkcneaaDoorGU
/- The law DomMeets, walked. -/
namespace Go.Proofs.YtoahickmkkcneaaDoor
open Go Go.RowKit
attribute [local irreducible] wpListIn Code.wpIn Exit.then Exit.inBlock bodyPost wpQuiet wpAnyIn wpAnyH bodyPostM
set_option maxHeartbeats 8000000

theorem meetK (u : LUnit) (hl : light u) (k : Nat) (hgood : (askedL u k).1 = 0) (X : LFunc) (hX : u.funcs[k]? = some X) (hok : GoodB X.blocks) (hpos : 0 < X.blocks.length) (hch : (checkL u).1 = 0) (ma : Option Addr) (mc : Nat) (l : List Int) (hll : l.length ≤ 17592186044000) (hin : l.any (outB X.blocks.length) = false) (g fs : Value) (w0 : World) (hg : SlAt w0 g 3 u.globals GlobalV) (hf : SlAt w0 fs 4 u.funcs FuncV) (hbs : SlAt w0 (.slice ma l.length mc) 1 l IntV) (hways : CellsAt w0 0 0 waysC) :
    RetK Tryd.prog 43 [.agg #[g, fs], .int .i64 k, .slice ma l.length mc] w0 1 (meetL X.blocks l) IntV fun v => .tuple #[v, .agg #[.int .i64 0, .int .i64 0]] :=
  retK_of (meet_ok u hl k hgood X hX hok hpos hch ma mc l hll hin g fs w0 hg hf hbs hways) fun x _ => ⟨x.1, x.2, rfl, fun w2 hw => by
    have h24 := (hl.2 X (List.mem_of_getElem? hX)).1
    have hlt : ∀ y ∈ meetL X.blocks l, ∃ c : Nat, y = c ∧ c < X.blocks.length := fun y hy => by
      obtain ⟨c, e, hc⟩ := (meetL_mem hok).1 hy
      exact ⟨c, e, hc.lt hok⟩
    have hml := nodup_lenJ (meetL_nodup X.blocks l) hlt
    exact hw.slAt (k := 0) rfl rfl (by omega) fun i y hy => by
      refine ⟨[.int .i64 y], fun j v hj => ?_, rfl, ?_⟩
      · match j, hj with
        | 0, hj => simpa [hy] using hj
      · obtain ⟨c, rfl, hc⟩ := hlt y (List.mem_of_getElem? hy)
        simp only [inI]; omega⟩
theorem ring_meets {x : Nat} : Meets ringB [1] x ↔ x = 1 := by
  have hf : ∀ b y, FrontR ringB b y → y = 1 := fun b y ⟨_, _, he, _⟩ => (ring_edge.1 he).2
  constructor
  · intro h
    cases h with
    | base _ h => exact hf _ _ h
    | step _ h => exact hf _ _ h
  · rintro rfl
    have h1 : Rch ringB (-1) 0 1 := ring_rch.2 (Nat.le_refl _)
    exact .base (b := 1) (by simp) ⟨1, h1, ring_edge.2 ⟨Nat.le_refl _, rfl⟩, .refl h1, .inl rfl⟩
theorem ring_meet : meetL ringB [1] = [1] := by
  classical
  unfold meetL
  simp only [ring_meets]
  decide
theorem meetsLaw_c (u : LUnit) (k : Int) (hk : inI k) (ma : Option Addr) (mc : Nat) (l : List Int) (hll : l.length ≤ 17592186044000) (g fs : Value) (w0 : World) (hg : SlAt w0 g 3 u.globals GlobalV) (hf : SlAt w0 fs 4 u.funcs FuncV) (hbs : SlAt w0 (.slice ma l.length mc) 1 l IntV) (hways : CellsAt w0 0 0 waysC) :
    RetV Tryd.prog 10 [.agg #[g, fs], .int .i64 k, .slice ma l.length mc] w0 (.bool true) := by
  classical
  have hg0 := hg
  have hf0 := hf
  obtain ⟨ga, gn, gc, gb, go, rfl, _⟩ := hg
  obtain ⟨fa, fn, fc, fb, fo, rfl, hfn, hfnc, hfnb, hfc, hfa, hfel⟩ := hf
  refine ret_enter Tryd.func10 rfl Tryd.ntmps10 rfl (Wd.nil NoS w0) ?_
  repeat (first | refine g_op rfl ?_ | refine g_then ?_ | refine g_nil ?_ | refine g_region ?_ | refine g_seq ?_ | refine g_box rfl fun _ _ => ?_)
  rename_i p3 _
  refine g_callE (val := fun b : Bool => .bool b) (E := fun _ => []) (φ := fun b => b = false → light u) rfl (fun w hw => heavy_c u _ _ w (hf0.keep keeps_func hw.chg) ⟨_, _, _, rfl⟩) fun b hb => ?_
  simp only [List.nil_append]
  cases b
  case true =>
    repeat (first | refine g_then ?_ | refine g_nil ?_ | refine g_region ?_ | refine g_seq ?_ | refine g_opS rfl ?_ | refine g_condT ?_ | refine g_ret ?_ | refine g_thenRet ?_)
    exact g_retV rfl rfl
  have hl := hb rfl
  repeat (first | refine g_op rfl ?_ | refine g_then ?_ | refine g_nil ?_ | refine g_region ?_ | refine g_seq ?_ | refine g_skip ?_ | refine g_condF ?_)
  by_cases hbad : (askedL u k).1 ≠ 0
  · refine g_callV rfl (fun w hw => meet_bad u hl k hk hbad _ _ _ w (hg0.keep keeps_global hw.chg) (hf0.keep keeps_func hw.chg) (hways.keep hw.chg)) ?_
    repeat (first | refine g_op rfl ?_ | refine g_then ?_ | refine g_nil ?_ | refine g_region ?_ | refine g_seq ?_ | refine g_alloc rfl fun _ _ => ?_ | refine g_storeAgg ?_)
    rename_i p8 _
    refine g_callV rfl (fun w hw => asked_c u hl k _ _ w (hg0.keep keeps_global hw.chg) (hf0.keep keeps_func hw.chg) (hways.keep hw.chg)) ?_
    repeat (first | refine g_op rfl ?_ | refine g_then ?_ | refine g_nil ?_ | refine g_region ?_ | refine g_seq ?_ | refine g_alloc rfl fun _ _ => ?_ | refine g_storeAgg ?_ | refine g_block ?_)
    rename_i p9 _
    refine g_loop (fun (_ : Unit) => True) (fun _ => [(10, .int .i64 0), (9, .pointer (some ⟨p9, 0, none⟩)), (8, .pointer (some ⟨p8, 0, none⟩)), (7, .slice none 0 0), (2, .slice ma l.length mc), (3, .pointer (some ⟨p3, 0, none⟩)), (1, .int .i64 k)]) (fun _ => [Ent.box p9 [.int .i64 (askedL u k).1, .int .i64 (askedL u k).2] 29, Ent.box p8 [.int .i64 (askedL u k).1, .int .i64 (askedL u k).2] 29, Ent.box p3 [.slice ga gn gc, .slice fa fn fc] 25]) (fun _ => 0) () trivial (g_done (by repeat (first | exact trivial | refine ⟨rfl, ?_⟩)) (List.Sublist.refl _)) fun _ _ => ?_
    repeat (first | refine g_op rfl ?_ | refine g_region ?_ | refine g_seq ?_)
    generalize decide ((0 : Int) < (l.length : Int)) = q
    cases q
    all_goals
      repeat (first | refine g_op rfl ?_ | refine g_then ?_ | refine g_nil ?_ | refine g_region ?_ | refine g_seq ?_ | refine g_open ?_ | refine g_pass rfl ?_ | refine g_condF ?_ | refine g_exit ?_ | refine g_thenExit ?_ | refine g_exitHere ?_)
      try rw [show decide ((askedL u k).1 = 0) = false by simp [hbad]]
      repeat (first | refine g_op rfl ?_ | refine g_then ?_ | refine g_nil ?_ | refine g_region ?_ | refine g_seq ?_ | refine g_condT ?_ | refine g_condF ?_ | refine g_exit ?_ | refine g_thenExit ?_ | refine g_exitHere ?_)
      try rw [show decide ((askedL u k).1 = 0) = false by simp [hbad]]
      repeat (first | refine g_op rfl ?_ | refine g_region ?_ | refine g_seq ?_ | refine g_condT ?_)
      rw [show (decide ((askedL u k).1 = (askedL u k).1) && decide ((askedL u k).2 = (askedL u k).2)) = true by simp]
      repeat (first | refine g_op rfl ?_ | refine g_then ?_ | refine g_nil ?_ | refine g_open ?_ | refine g_ret ?_ | refine g_thenRet ?_)
      exact g_retV rfl rfl
  have hgood : (askedL u k).1 = 0 := by simpa using hbad
  obtain ⟨hch, has, i, X, rfl, hX, hok⟩ := asked_ok hgood
  have hpos := check_pos hch hX
  have hil : i < fn := by rw [hfn]; exact (List.getElem?_eq_some_iff.1 hX).1
  have had : AddrIs fa fb fo := ⟨hfa (ne_of_get hX)⟩
  have hli : LtIs i fn := ⟨hil⟩
  obtain ⟨cs, hcs, bv, rfl, hpi, hri, hbv⟩ := hfel i X hX
  have hci : CellsIs w0 fb (fo + i * 4) _ := ⟨hcs⟩
  have hbv0 := hbv
  obtain ⟨ba, bn, bc, _, _, rfl, hbn, _⟩ := hbv
  have h24 := (hl.2 X (List.mem_of_getElem? hX)).1
  have hlin : ∀ x ∈ l, inI x := fun x hx => by
    obtain ⟨_, _, _, _, _, _, hel⟩ := hbs.at
    obtain ⟨j, hj⟩ := List.getElem?_of_mem hx
    obtain ⟨_, _, _, h⟩ := hel j x hj
    exact h
  obtain ⟨ml, c, a, hcase, hK⟩ : ∃ (ml : List Int) (c a : Int), ((l.any (outB X.blocks.length) = true ∧ ml = [] ∧ c = 3 ∧ a = -1) ∨ (l.any (outB X.blocks.length) = false ∧ ml = meetL X.blocks l ∧ c = 0 ∧ a = 0)) ∧ ∀ w, Chg NoS w0 w → RetK Tryd.prog 43 [.agg #[.slice ga gn gc, .slice fa fn fc], .int .i64 i, .slice ma l.length mc] w 1 ml IntV fun v => .tuple #[v, .agg #[.int .i64 c, .int .i64 a]] := by
    cases ho : l.any (outB X.blocks.length)
    · exact ⟨_, 0, 0, .inr ⟨rfl, rfl, rfl, rfl⟩, fun w hw => meetK u hl i hgood X hX hok hpos hch ma mc l hll ho _ _ w (hg0.keep keeps_global hw) (hf0.keep keeps_func hw) (hbs.keep keeps_int hw) (hways.keep hw)⟩
    · refine ⟨[], 3, -1, .inl ⟨rfl, rfl, rfl, rfl⟩, fun w hw => retK_of (β := Unit) (val := fun _ => .tuple #[.slice none 0 0, .agg #[.int .i64 3, .int .i64 (-1)]]) (E := fun _ => []) (φ := fun _ => True) ((meet_out u hl i hgood X hX l hlin ho _ _ _ w (hg0.keep keeps_global hw) (hf0.keep keeps_func hw) (hbs.keep keeps_int hw) (hways.keep hw)).mono fun v w' ⟨h1, h2⟩ => ⟨(), h1, (Wd.nil NoS w).call h2, trivial⟩) fun _ _ => ⟨none, 0, rfl, fun w2 _ => nil_sl _ _ _⟩⟩
  refine g_callK (s := 1) (l := ml) (V := IntV) (mk := fun v => .tuple #[v, .agg #[.int .i64 c, .int .i64 a]]) rfl (fun w hw => hK w hw.chg) fun qa qc qp => ?_
  repeat (first | refine g_op rfl ?_ | refine g_then ?_ | refine g_nil ?_ | refine g_region ?_ | refine g_seq ?_ | refine g_alloc rfl fun _ _ => ?_ | refine g_storeAgg ?_)
  rename_i p8 _
  refine g_callV rfl (fun w hw => asked_c u hl i _ _ w (hg0.keep keeps_global hw.chg) (hf0.keep keeps_func hw.chg) (hways.keep hw.chg)) ?_
  rw [has]
  repeat (first | refine g_op rfl ?_ | refine g_then ?_ | refine g_nil ?_ | refine g_region ?_ | refine g_seq ?_ | refine g_alloc rfl fun _ _ => ?_ | refine g_storeAgg ?_ | refine g_block ?_)
  rename_i p9 _
  obtain ⟨_, _, _, lb, lo, hma, hlel⟩ := hbs.at
  refine g_loop (fun (x : Nat × Int × Int) => x.1 ≤ l.length ∧ ((x.2 = (0, 0) ∧ (l.take x.1).any (outB X.blocks.length) = false) ∨ (x.2 = (3, -1) ∧ l.any (outB X.blocks.length) = true))) (fun x => [(10, .int .i64 x.1), (9, .pointer (some ⟨p9, 0, none⟩)), (8, .pointer (some ⟨p8, 0, none⟩)), (7, .slice qa ml.length qc), (2, .slice ma l.length mc), (3, .pointer (some ⟨p3, 0, none⟩)), (1, .int .i64 i)]) (fun x => Ent.box p9 [.int .i64 x.2.1, .int .i64 x.2.2] 29 :: [Ent.box p8 [.int .i64 c, .int .i64 a] 29, (⟨qp, fun w => SlAt w (.slice qa ml.length qc) 1 ml IntV⟩ : Ent), Ent.box p3 [.slice ga gn gc, .slice fa fn fc] 25]) (fun x => l.length - x.1) (0, 0, 0) ⟨Nat.zero_le _, .inl ⟨rfl, by simp⟩⟩ (g_done (by repeat (first | exact trivial | refine ⟨rfl, ?_⟩)) (List.Sublist.refl _)) fun x ⟨hj, hinv⟩ => ?_
  obtain ⟨j, c1, a1⟩ := x
  simp only at hj hinv ⊢
  by_cases hgo : j < l.length ∧ c1 = 0
  · obtain ⟨hlt, rfl⟩ := hgo
    have hnone : a1 = 0 ∧ (l.take j).any (outB X.blocks.length) = false := by
      rcases hinv with ⟨h, h2⟩ | ⟨h, _⟩
      · exact ⟨congrArg Prod.snd h, h2⟩
      · exact absurd (congrArg Prod.fst h) (by simp)
    obtain ⟨rfl, hnone⟩ := hnone
    obtain ⟨y, hy⟩ : ∃ y, l[j]? = some y := ⟨_, List.getElem?_eq_getElem hlt⟩
    have hadl : AddrIs ma lb lo := ⟨hma (ne_of_get hy)⟩
    obtain ⟨_, hcy, rfl, hyi⟩ := hlel j y hy
    have hciy : CellsIs w0 lb (lo + j * 1) [.int .i64 y] := ⟨hcy⟩
    have hlj : LtIs j l.length := ⟨hlt⟩
    have htk : (l.take (j + 1)).any (outB X.blocks.length) = outB X.blocks.length y := by
      rw [List.take_add_one, hy, List.any_append, hnone]; simp
    repeat (first | refine g_op rfl ?_ | refine g_region ?_ | refine g_seq ?_)
    rw [show decide ((j : Int) < (l.length : Int)) = true by simp; omega]
    repeat (first | refine g_op rfl ?_ | refine g_then ?_ | refine g_nil ?_ | refine g_seq ?_ | refine g_open ?_ | refine g_block ?_ | refine g_skip ?_ | refine g_condT ?_)
    rw [show decide ((0 : Int) = 0) = true from rfl]
    skip
    refine g_draw mixed (by kernel_rfl) ?_
    repeat (refine q_op rfl ?_)
    by_cases hy0 : y < 0
    · rw [decide_eq_true hy0]
      repeat (first | refine q_op rfl ?_ | refine q_pass rfl ?_ | refine q_nil ?_)
      repeat (first | refine g_then ?_ | refine g_region ?_ | refine g_condT ?_)
      refine g_callV rfl (fun w hw => sameFault_c 3 (-1) w) ?_
      repeat (first | refine g_op rfl ?_ | refine g_then ?_ | refine g_nil ?_ | refine g_region ?_ | refine g_opS rfl ?_ | refine g_storeAgg ?_ | refine g_inBlock ?_ | refine g_add rfl (by omega) (by omega) ?_)
      exact g_next (j + 1, 3, -1) ⟨hlt, .inr ⟨rfl, List.any_eq_true.2 ⟨y, List.mem_of_getElem? hy, outB_iff.2 (.inl hy0)⟩⟩⟩ (by simp only; omega) (by repeat (first | exact trivial | refine ⟨rfl, ?_⟩)) (List.Sublist.refl _)
    rw [decide_eq_false hy0]
    repeat (first | refine q_op rfl ?_ | refine q_open ?_ | refine q_nil ?_)
    by_cases hyn : (bn : Int) ≤ y
    · rw [decide_eq_true hyn]
      skip
      repeat (first | refine g_then ?_ | refine g_region ?_ | refine g_condT ?_)
      refine g_callV rfl (fun w hw => sameFault_c 3 (-1) w) ?_
      repeat (first | refine g_op rfl ?_ | refine g_then ?_ | refine g_nil ?_ | refine g_region ?_ | refine g_opS rfl ?_ | refine g_storeAgg ?_ | refine g_inBlock ?_ | refine g_add rfl (by omega) (by omega) ?_)
      exact g_next (j + 1, 3, -1) ⟨hlt, .inr ⟨rfl, List.any_eq_true.2 ⟨y, List.mem_of_getElem? hy, outB_iff.2 (.inr (by omega))⟩⟩⟩ (by simp only; omega) (by repeat (first | exact trivial | refine ⟨rfl, ?_⟩)) (List.Sublist.refl _)
    · rw [decide_eq_false hyn]
      skip
      repeat (first | refine g_op rfl ?_ | refine g_then ?_ | refine g_nil ?_ | refine g_region ?_ | refine g_opS rfl ?_ | refine g_inBlock ?_ | refine g_skip ?_ | refine g_condF ?_ | refine g_add rfl (by omega) (by omega) ?_)
      refine g_next (j + 1, 0, 0) ⟨hlt, .inl ⟨rfl, ?_⟩⟩ (by simp only; omega) (by repeat (first | exact trivial | refine ⟨rfl, ?_⟩)) (List.Sublist.refl _)
      simp only
      rw [htk]
      cases ho : outB X.blocks.length y
      · rfl
      · rcases outB_iff.1 ho with h | h <;> omega
  · have hcc : c1 = c ∧ a1 = a := by
      rcases hinv with ⟨h, h2⟩ | ⟨h, h2⟩
      · have hjl : j = l.length := by
          have := congrArg Prod.fst h
          simp only at this
          by_cases hlt : j < l.length
          · exact absurd ⟨hlt, this⟩ hgo
          · omega
        rw [hjl, List.take_length] at h2
        rcases hcase with ⟨h3, _⟩ | ⟨_, _, h3, h4⟩
        · rw [h2] at h3; cases h3
        · rw [h3, h4]; exact ⟨congrArg Prod.fst h, congrArg Prod.snd h⟩
      · rcases hcase with ⟨_, _, h3, h4⟩ | ⟨h3, _⟩
        · rw [h3, h4]; exact ⟨congrArg Prod.fst h, congrArg Prod.snd h⟩
        · rw [h2] at h3; cases h3
    obtain ⟨rfl, rfl⟩ := hcc
    rcases hcase with ⟨ho, rfl, rfl, rfl⟩ | ⟨ho, rfl, rfl, rfl⟩
    · refine Or.elim (Classical.em (j < l.length)) (fun hlt => ?_) (fun hlt => ?_)
      repeat (first | refine g_op rfl ?_ | refine g_region ?_ | refine g_seq ?_)
      rw [show decide ((j : Int) < (l.length : Int)) = true by simp; omega]
      repeat (first | refine g_op rfl ?_ | refine g_then ?_ | refine g_nil ?_ | refine g_region ?_ | refine g_seq ?_ | refine g_open ?_ | refine g_condT ?_ | refine g_condF ?_ | refine g_exit ?_ | refine g_thenExit ?_ | refine g_exitHere ?_)
      rw [show decide ((3 : Int) = 0) = false from rfl]
      skip
      rotate_left
      repeat (first | refine g_op rfl ?_ | refine g_region ?_ | refine g_seq ?_)
      rw [show decide ((j : Int) < (l.length : Int)) = false by simp; omega]
      repeat (first | refine g_op rfl ?_ | refine g_then ?_ | refine g_nil ?_ | refine g_region ?_ | refine g_seq ?_ | refine g_open ?_ | refine g_pass rfl ?_ | refine g_condT ?_ | refine g_condF ?_ | refine g_exit ?_ | refine g_thenExit ?_ | refine g_exitHere ?_)
      rw [show (!decide ((3 : Int) = 0)) = true from rfl]
      skip
      rotate_left
      all_goals
        try rw [show decide ((3 : Int) = 0) = false from rfl]
        skip
        rw [show (decide ((3 : Int) = 3) && decide ((-1 : Int) = -1)) = true from rfl]
        repeat (first | refine g_op rfl ?_ | refine g_then ?_ | refine g_nil ?_ | refine g_ret ?_ | refine g_thenRet ?_)
        exact g_retV rfl rfl
    have hlt : ¬ j < l.length := fun h => hgo ⟨h, rfl⟩
    repeat (first | refine g_op rfl ?_ | refine g_region ?_ | refine g_seq ?_)
    rw [show decide ((j : Int) < (l.length : Int)) = false by simp; omega]
    repeat (first | refine g_op rfl ?_ | refine g_then ?_ | refine g_nil ?_ | refine g_region ?_ | refine g_seq ?_ | refine g_pass rfl ?_ | refine g_skip ?_ | refine g_condF ?_ | refine g_exit ?_ | refine g_thenExit ?_ | refine g_exitHere ?_)
    rw [show (!decide ((0 : Int) = 0)) = false by simp]
    skip
    refine g_callK (s := 4) (l := ringU.funcs) (V := FuncV) (mk := fun v => .agg #[.slice none 0 0, v]) rfl (fun w hw => ring_c w) fun ra rc rp => ?_
    repeat (refine g_build1 rfl rfl fun _ _ => ?_)
    rename_i bt _
    have one : ∀ (w : World) (H : List Ent) (S : Nat → Prop) (b : Nat), Wd S w0 (Ent.vec (some ⟨b, 0, none⟩) 1 1 3 1 [.int .i64 1] :: H) w → SlAt w (.slice (some ⟨b, 0, none⟩) 1 1) 1 [(1 : Int)] IntV := fun w H S b hw => hw.slAt (k := 0) rfl rfl (by omega) fun i x hx => by
      have h1 : i = 0 := by have := (List.getElem?_eq_some_iff.1 hx).1; simp at this; omega
      subst h1
      simp only [List.getElem?_cons_zero, Option.some.injEq] at hx
      subst hx
      refine ⟨[.int .i64 1], fun j v hj => ?_, rfl, by simp only [inI]; omega⟩
      match j, hj with
      | 0, hj => simpa using hj
    refine g_callK (s := 1) (l := meetL ringB [1]) (V := IntV) (mk := fun v => .tuple #[v, .agg #[.int .i64 0, .int .i64 0]]) rfl (fun w hw => meetK ringU ring_light 0 (congrArg Prod.fst ring_asked) ringF rfl ring_good (by decide) (by rw [ring_check]) (some ⟨bt, 0, none⟩) 1 [1] (by simp) (by decide) _ _ w (nil_sl _ _ _) (hw.get (k := 1) rfl) (one w _ _ bt hw) (hways.keep hw.chg)) fun ya yc yp => ?_
    rw [ring_meet, show ([1] : List Int).length = 1 from rfl]
    repeat (first | refine g_op rfl ?_ | refine g_then ?_ | refine g_nil ?_ | refine g_region ?_ | refine g_seq ?_ | refine g_open ?_ | refine g_alloc rfl fun _ _ => ?_ | refine g_storeAgg ?_)
    rename_i p12 _
    rw [show (decide ((0 : Int) = 0) && decide ((0 : Int) = 0)) = true from rfl]
    skip
    refine g_callE (val := fun x : Option Addr × Nat => .slice x.1 (meetL X.blocks l).length x.2) (E := fun x => [Ent.vec x.1 (meetL X.blocks l).length x.2 3 1 ((meetL X.blocks l).map (.int .i64))]) (φ := fun _ => True) rfl (fun w hw => refMeet_c _ _ _ X.blocks _ ⟨_, _, _, rfl⟩ l ma mc w (hbv0.keep keeps_block hw.chg) (hbs.keep keeps_int hw.chg) (by omega) hok hpos) fun x _ => ?_
    obtain ⟨za, zc⟩ := x
    simp only [List.cons_append, List.nil_append]
    have hmlt : ∀ y ∈ meetL X.blocks l, ∃ c : Nat, y = c ∧ c < X.blocks.length := fun y hy => by
      obtain ⟨c, e, hc⟩ := (meetL_mem hok).1 hy
      exact ⟨c, e, hc.lt hok⟩
    have hml := nodup_lenJ (meetL_nodup X.blocks l) hmlt
    try refine g_open ?_
    refine g_callV rfl (fun w hw => ints_c _ _ (meetL X.blocks l) (meetL X.blocks l) w (hw.get (k := 7) rfl) (hw.slAt (k := 0) rfl rfl (by omega) fun i y hy => ?_)) ?_
    · refine ⟨[.int .i64 y], fun j v hj => ?_, rfl, ?_⟩
      · match j, hj with
        | 0, hj => simpa [hy] using hj
      · obtain ⟨c, rfl, hc⟩ := hmlt y (List.mem_of_getElem? hy)
        simp only [inI]; omega
    rw [show decide (meetL X.blocks l = meetL X.blocks l) = true by simp]
    repeat (first | refine g_op rfl ?_ | refine g_open ?_ | refine g_build1 rfl rfl fun _ _ => ?_)
    try rw [show decide ((0 : Int) = 0) = true from rfl]
    skip
    rename_i bt2 _
    try refine g_open ?_
    refine g_callV rfl (fun w hw => ints_c _ _ [(1 : Int)] [(1 : Int)] w (hw.get (k := 3) rfl) (one w _ _ bt2 hw)) ?_
    rw [show decide (([1] : List Int) = [1]) = true by simp]
    repeat (first | refine g_op rfl ?_ | refine g_then ?_ | refine g_nil ?_ | refine g_ret ?_)
    exact g_retV rfl rfl
end Go.Proofs.YtoahickmkkcneaaDoor

/- From the form's reading of a unit, a number and one or two slices of numbers to the walks' facts. -/
namespace Go.Proofs.YtoahickmkkcneaaDoor
open Go Go.RowKit Go.ChangeShapes Go.WideShapes Go.ChangeAt
set_option maxRecDepth 100000

/-- a slice of numbers, and how long it can be -/
theorem o_intsB {H : Type} {enc : TypeId × Value → H} {w : World} {base : Nat} {spare : Nat → Bool} {held : Bool} {fuel : Nat} {v : Value} {x : DataW H × List MemPlace} (h : DataW.trod enc Tryd.prog w base spare held fuel 35 [v] = some x) (hz : Small Tryd.prog 35 x.1) :
    ∃ (a : Option Addr) (c : Nat) (l : List Int), v = .slice a l.length c ∧ SlAt w v 1 l IntV ∧ l.length ≤ 17592186044000 := by
  obtain ⟨l, hs⟩ := o_ints h hz
  have hs0 := hs
  obtain ⟨a, n, c, b, o, rfl, rfl, _⟩ := hs
  refine ⟨a, c, l, rfl, hs0, ?_⟩
  rcases Deep.open_slice Tryd.underlying35 h with ⟨hcs, _⟩ | ⟨a', len, cap, m, n', D, Pl, hcs, _, hl, hm, hmm, rfl, _⟩
  · simp only [List.cons.injEq, and_true, Value.slice.injEq] at hcs
    rw [hcs.2.1]; omega
  · simp only [List.cons.injEq, and_true, Value.slice.injEq] at hcs
    obtain ⟨_, rfl, _⟩ := hcs
    have h1 := hz ((l.length + (m - l.length)) * Tryd.prog.bytesOf 3) (by simp [DataW.weights, Tryd.underlying35])
    rw [show Tryd.prog.bytesOf 3 = 8 by kernel_rfl] at h1
    simp only [reachBytes] at h1
    omega
/-- a unit, a number and a slice of numbers, as a law gets them -/
theorem open_uil {H : Type} {enc : TypeId × Value → H} {W : World} {args : Array Value} {ds : List (DataW H)} {p : List MemPlace} {base : Nat} {params : Array TypeId} (hp : params = #[25, 3, 35])
    (h1 : ∀ (j : Nat) t v, params[j]? = some t → args[j]? = some v → Value.okWide Tryd.prog W .any base t v)
    (hA : DataW.TrodAll enc Tryd.prog W 0 (fun _ => true) true [25, 3, 35] args.toList ds p) (hz : ∀ k ∈ DataW.weightsEach Tryd.prog [25, 3, 35] ds, k ≤ reachBytes) :
    ∃ (u : LUnit) (g fs : Value) (k : Int) (a : Option Addr) (c : Nat) (l : List Int), args = #[.agg #[g, fs], .int .i64 k, .slice a l.length c] ∧ SlAt W g 3 u.globals GlobalV ∧ SlAt W fs 4 u.funcs FuncV ∧ inI k ∧ SlAt W (.slice a l.length c) 1 l IntV ∧ l.length ≤ 17592186044000 := by
  subst hp
  obtain ⟨v0, vs0, d0, ds0, p0, q0, hargs, rfl, rfl, h0, r0⟩ := trodAll_cons hA
  obtain ⟨v1, vs1, d1, ds1, p1, q1, rfl, rfl, rfl, h1', r1⟩ := trodAll_cons r0
  obtain ⟨v2, vs2, d2, ds2, p2, q2, rfl, rfl, rfl, h2', r2⟩ := trodAll_cons r1
  obtain ⟨rfl, rfl, rfl⟩ := trodAll_nil r2
  obtain rfl : args = #[v0, v1, v2] := by cases args; simp_all
  obtain ⟨cs0, rfl, _⟩ := okWide_struct Tryd.underlying25 (h1 0 25 v0 rfl rfl)
  obtain ⟨f0, k0⟩ := h0
  obtain ⟨f1, k1⟩ := h1'
  obtain ⟨f2, k2⟩ := h2'
  obtain ⟨cs0⟩ := cs0
  have hz0 : Small Tryd.prog 25 d0 := fun k hk => hz k (mem_weightsEach (i := 0) rfl rfl hk)
  have hz2 : Small Tryd.prog 35 d2 := fun k hk => hz k (mem_weightsEach (i := 2) rfl rfl hk)
  obtain ⟨u, g, f, e0, hg, hf⟩ := o_unit k0 hz0
  have hv1 : v1.cells = #[v1] := by
    obtain ⟨n, rfl, _⟩ := okWide_int Tryd.underlying3 (h1 1 3 v1 rfl rfl)
    rfl
  have hv2 : v2.cells = #[v2] := by
    obtain ⟨_, _, _, rfl⟩ := okWide_slice Tryd.underlying35 (h1 2 35 v2 rfl rfl)
    rfl
  obtain ⟨n, e1, hn⟩ := o_int k1
  rw [hv2] at k2
  obtain ⟨a, c, l, e2, hs, hl⟩ := o_intsB (x := (d2, _)) k2 hz2
  simp only [Value.cells] at e0
  subst e0
  rw [hv1] at e1
  simp only [List.cons.injEq, and_true] at e1
  subst e1 e2
  exact ⟨u, g, f, n, a, c, l, rfl, hg, hf, hn, hs, hl⟩
def argsUIL : Array Value := #[.agg #[.slice none 0 0, .slice none 0 0], .int .i64 0, .slice none 0 0]
end Go.Proofs.YtoahickmkkcneaaDoor
