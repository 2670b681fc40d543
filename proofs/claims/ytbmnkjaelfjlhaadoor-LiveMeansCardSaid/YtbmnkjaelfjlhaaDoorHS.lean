/- Texts joined: DoE DoF. -/
import Derived.Test.YtbmnkjaelfjlhaaDoorHJ
import Derived.Test.YtbmnkjaelfjlhaaDoorHK
import Derived.Test.YtbmnkjaelfjlhaaDoorHN
import Derived.Test.YtbmnkjaelfjlhaaDoorHQ
import Derived.Test.YtbmnkjaelfjlhaaDoorHR
/- live.Do: what it makes of a unit that passes the check. -/
namespace Go.Proofs.YtbmnkjaelfjlhaaDoor
open Go Go.RowKit
attribute [local irreducible] wpListIn Code.wpIn Exit.then Exit.inBlock bodyPost wpQuiet wpAnyIn wpAnyH bodyPostM oneH
set_option maxHeartbeats 4000000

theorem check_qdst {u : LUnit} (hc : CheckOk u) {X : LFunc} (hX : X ∈ u.funcs) : QDst X.blocks := fun B hB x hx h1 h2 => by
  obtain ⟨b, hb⟩ := List.getElem?_of_mem hB
  exact ins_dst ((hc.body X hX).list b B hb x hx) h1 h2
theorem check_small {u : LUnit} (hc : CheckOk u) {X : LFunc} (hX : X ∈ u.funcs) : (0 ≤ X.params ∧ X.params ≤ 6) ∧ (0 ≤ X.regs ∧ X.regs ≤ 100) ∧ X.blocks.length ≤ 40 ∧ sizeOfBs X.blocks ≤ 300 := by
  obtain ⟨j, hj⟩ := List.getElem?_of_mem hX
  have h0 := hc.head j (List.getElem?_eq_some_iff.1 hj).1
  unfold headAt at0 at h0
  rw [hj] at h0
  obtain ⟨_, _, h3, h4, h5, h6⟩ := head_zero.1 h0
  exact ⟨h3, by omega, h5.2, h6⟩
theorem many_size (bl : List LBlock) : (manyL bl : Int) = sizeOfBs bl := by
  unfold manyL sizeOfBs
  induction bl with
  | nil => rfl
  | cons b bl ih => simp only [List.map_cons, List.sum_cons, ← ih]; omega
theorem check_notLarge {u : LUnit} (hc : CheckOk u) : ∀ X ∈ u.funcs, largeF X = false := fun X hX => by
  obtain ⟨_, h1, h2, h3⟩ := check_small hc hX
  unfold largeF largeL
  have := many_size X.blocks
  simp only [Bool.or_eq_false_iff, decide_eq_false_iff_not]
  omega
theorem check_smallG {u : LUnit} (hc : CheckOk u) : smallG u.globals := by
  have h0 := hc.globs
  refine ⟨by omega, fun g hg => ?_⟩
  obtain ⟨i, hi⟩ := List.getElem?_of_mem hg
  have hz := hc.glob i (List.getElem?_eq_some_iff.1 hi).1
  unfold globAt at0 at hz
  rw [hi] at hz
  simp only at hz
  unfold globErr at hz
  split at hz
  · cases hz
  split at hz
  · cases hz
  split at hz
  · cases hz
  rename_i h1
  simp only [within, Bool.not_eq_true', Bool.and_eq_false_iff, decide_eq_false_iff_not, not_or, Decidable.not_not] at h1
  omega
theorem trimU_whole {u : LUnit} (h : Whole u) : Whole (trimU u) ∧ NoMore u (trimU u) := cutsU_whole h (trimU_cuts u)
theorem trim_notLarge {u : LUnit} (h : Whole u) : ∀ X ∈ u.funcs, largeF (trimF (wordsU u) X) = false := fun X hX =>
  check_notLarge (trimU_whole h).1.ok _ (by unfold trimU; exact List.mem_map.2 ⟨X, hX, rfl⟩)
theorem doTurn_c (W : Int) (hW : 0 ≤ W ∧ W ≤ 9223372036854775807) (p : Nat) (w0 : World) (hp : CellsAt w0 p 0 [.int .i64 W]) (X : LFunc) (R : Nat) (hXR : X.regs = R) (hR : R ≤ 100) (hlen : X.blocks.length ≤ 100) (hpar : inI X.params) (hf : FuncOk R X.blocks) (hqd : QDst X.blocks) :
    Turns w0 64 [] [.pointer (some ⟨p, 0, none⟩)] (trimF W) X := by
  obtain ⟨xn, xp, xr, xb⟩ := X
  simp only at hXR hlen hpar hf hqd
  subst hXR
  intro a c bs w hbs hbd hch hfr hw
  simp only at hbs
  subst hbs
  have hpw : CellsAt w p 0 [.int .i64 W] := hp.keep hch
  have hold : OldIs (fps (fnE a c bs)) p := ⟨fun h => by have := hfr p h; have := World.block_lt_of_cell? w0 ⟨p, 0, none⟩ (hp 0 _ rfl); simp only at this; omega⟩
  refine Ret.mono (R := fun u w' => ∃ x : List BRow, u = .agg #[.string xn, .int .i64 xp, .int .i64 R, .slice a x.length c] ∧ Wd (fps (fnE a c bs)) w (fnE a c x) w' ∧ x.map BRow.blk = trimB W (bs.map BRow.blk) ∧ x.length = bs.length ∧ ∀ b ∈ x, b.Bd) ?_ fun u w' ⟨x, h1, h2, h3, h4, h5⟩ => ⟨(a, c, x), h1, h2, h3, h5, show x.length ≤ 1000 by rw [List.length_map] at hlen; omega, hpar, show inI (R : Int) from ⟨by omega, by omega⟩⟩
  simp only [List.nil_append, List.cons_append]
  have hcp : CellsIs w p 0 _ := ⟨hpw⟩
  refine ret_enter Tryd.func64 rfl Tryd.ntmps64 rfl hw ?_
  generalize fps (fnE a c bs) = SS at *
  repeat (first | refine g_then ?_ | refine g_nil ?_ | refine g_region ?_ | refine g_seq ?_ | refine g_box rfl fun _ _ => ?_ | refine g_alloc rfl fun _ _ => ?_ | refine g_block ?_)
  rename_i p2 _ p3 _
  have hbl : bs.length ≤ 100 := by rw [List.length_map] at hlen; exact hlen
  refine g_loop (fun x : List BRow => Cuts W (bs.map BRow.blk) (x.map BRow.blk) ∧ x.length = bs.length ∧ ∀ b ∈ x, b.Bd) (fun _ => [(1, .pointer (some ⟨p, 0, none⟩)), (2, .pointer (some ⟨p2, 0, none⟩)), (3, .pointer (some ⟨p3, 0, none⟩))]) (fun x => Ent.box p2 [.string xn, .int .i64 xp, .int .i64 R, .slice a bs.length c] 35 :: (fnE a c x ++ [Ent.box p3 [.string ByteArray.empty, .int .i64 0, .int .i64 0, .slice none 0 0] 35])) (fun x => sizeN (x.map BRow.blk)) bs ⟨.refl _, rfl, hbd⟩ (g_permH (List.perm_append_comm (l₁ := [Ent.box p3 [.string ByteArray.empty, .int .i64 0, .int .i64 0, .slice none 0 0] 35]) (l₂ := Ent.box p2 [.string xn, .int .i64 xp, .int .i64 R, .slice a bs.length c] 35 :: fnE a c bs)) (g_done (by repeat (first | exact trivial | refine ⟨rfl, ?_⟩)) (List.Sublist.refl _))) fun x ⟨hc1, hc2, hc3⟩ => ?_
  repeat (first | refine g_op rfl ?_ | refine g_region ?_ | refine g_seq ?_)
  rw [← hc2]
  refine g_eqH (H1 := (Ent.box p2 [.string xn, .int .i64 xp, .int .i64 R, .slice a x.length c] 35 :: fnE a c x) ++ [Ent.box p3 [.string ByteArray.empty, .int .i64 0, .int .i64 0, .slice none 0 0] 35]) rfl ?_
  have hf2 := hc1.sub.funcOk hf
  have hq2 := hc1.sub.qdst hqd
  refine g_callS (val := fun y : List (List Bool) × List BRow => .bool (goneTo W y.1 (x.map BRow.blk) x.length)) (E := fun y => Ent.box p2 [.string xn, .int .i64 xp, .int .i64 R, .slice a x.length c] 35 :: fnE a c y.2) (φ := fun y => OutOk R (x.map BRow.blk) y.1 ∧ y.2.map BRow.blk = onceTo W y.1 (x.map BRow.blk) x.length ∧ y.2.length = x.length ∧ ∀ b ∈ y.2, b.Bd) rfl
    (fun w hw => (once_c W hW p2 _ _ R hR a c x (by omega) hc3 hf2 hq2 w hw.pre).mono fun u w' ⟨outs, bs', h1, h2, h3⟩ => ⟨(outs, bs'), h1, h2, h3⟩) fun y ⟨h1, h2, h3, h4⟩ => ?_
  obtain ⟨outs, bs'⟩ := y
  simp only at h1 h2 h3 h4
  have hxl : x.length = (x.map BRow.blk).length := (List.length_map _).symm
  have hstep := once_cuts (W := W) hf2 h1 x.length (by omega)
  rw [← h2] at hstep
  simp only [List.cons_append]
  repeat (first | refine g_then ?_ | refine g_nil ?_)
  refine g_cond (fun h5 => ?_) (fun h5 => ?_)
  · repeat (first | refine g_then ?_ | refine g_inBlock ?_ | refine g_block ?_ | refine g_skip ?_)
    refine g_next bs' ⟨hc1.trans hstep, by omega, h4⟩ ?_ (by repeat (first | exact trivial | refine ⟨rfl, ?_⟩)) ?_
    · rw [hxl] at h5 h2
      have := once_less hf2 h1 h5
      rw [h2]
      exact this
    · rw [hc2]
      exact List.Sublist.refl _
  · refine g_permH (List.perm_append_comm (l₁ := Ent.box p2 [.string xn, .int .i64 xp, .int .i64 R, .slice a x.length c] 35 :: fnE a c bs') (l₂ := [Ent.box p3 [.string ByteArray.empty, .int .i64 0, .int .i64 0, .slice none 0 0] 35])) ?_
    simp only [List.cons_append, List.nil_append]
    repeat (first | refine g_op rfl ?_ | refine g_then ?_ | refine g_nil ?_ | refine g_region ?_ | refine g_seq ?_ | refine g_storeAgg ?_ | refine g_exit ?_ | refine g_thenExit ?_ | refine g_exitHere ?_ | refine g_ret ?_)
    refine g_retC rfl fun w hw => ⟨bs', ?_, hw.sub (List.Sublist.cons _ (List.Sublist.cons _ (List.Sublist.refl _))), ?_, by omega, h4⟩
    · rw [h3]
    · rw [hxl] at h5 h2
      obtain ⟨h6, h7⟩ := once_end hf2 hq2 h1 h5
      rw [h2, h6]
      exact trimB_eq hc1 h7
theorem wordsU_bd {u : LUnit} (hc : CheckOk u) : 0 ≤ wordsU u ∧ wordsU u ≤ 9223372036854775807 := by
  have h0 := wordsTo_bd (check_smallG hc) u.globals.length
  rw [wordsTo_all] at h0
  have := (check_smallG hc).1
  have e : wordsL u.globals = wordsU u := rfl
  omega
theorem liveDo_bad (u : LUnit) (hl : light u) (hbad : (checkL u).1 ≠ 0) (g fs : Value) (w0 : World) (hg : SlAt w0 g 3 u.globals GlobalV) (hf : SlAt w0 fs 4 u.funcs FuncV) (hways : CellsAt w0 0 0 waysC) :
    RetV Tryd.prog 29 [.agg #[g, fs]] w0 (.tuple #[.agg #[.slice none 0 0, .slice none 0 0], .agg #[.int .i64 (checkL u).1, .int .i64 (checkL u).2]]) := by
  have hg0 := hg
  have hf0 := hf
  obtain ⟨ga, gn, gc, gb, go, rfl, _⟩ := hg
  obtain ⟨fa, fn, fc, fb, fo, rfl, hfn, _⟩ := hf
  refine ret_enter Tryd.func29 rfl Tryd.ntmps29 rfl (Wd.nil NoS w0) ?_
  repeat (first | refine g_op rfl ?_ | refine g_then ?_ | refine g_nil ?_ | refine g_region ?_ | refine g_seq ?_ | refine g_box rfl fun _ _ => ?_ | refine g_alloc rfl fun _ _ => ?_)
  rename_i p1 _ p2 _ p3 _
  refine g_callV rfl (fun w hw => check_c u hl _ _ w (hg0.keep keeps_global hw.chg) (hf0.keep keeps_func hw.chg) (hways.keep hw.chg)) ?_
  repeat (first | refine g_op rfl ?_ | refine g_then ?_ | refine g_nil ?_ | refine g_region ?_ | refine g_seq ?_ | refine g_alloc rfl fun _ _ => ?_ | refine g_storeAgg ?_)
  rename_i p4 _
  refine g_cond (fun h1 => ?_) (fun h1 => ?_)
  · repeat (refine g_seq ?_)
    refine g_drawW [(2, .pointer (some ⟨p2, 0, none⟩)), (3, .pointer (some ⟨p3, 0, none⟩))] [Ent.box p3 [.int .i64 (checkL u).1, .int .i64 (checkL u).2] 28, Ent.box p2 [.slice none 0 0, .slice none 0 0] 25] mixed ?_ ?_
    · repeat' (first | refine g_any0 (by decide +kernel) ?_ | refine g_any (by decide +kernel) ?_ | refine any_nil | refine any_skip (by decide +kernel) ?_ | refine any_cons ?_ ?_ | refine g_op rfl ?_ | refine g_then ?_ | refine g_nil ?_ | refine g_storeAgg ?_)
      all_goals exact g_done (by repeat (first | exact trivial | refine ⟨rfl, ?_⟩)) (by simp)
    · repeat (first | refine g_then ?_ | refine g_ret ?_ | refine g_thenRet ?_)
      exact g_retCC rfl fun _ hw => ⟨rfl, hw.chg⟩
  · simp at h1
    omega
theorem liveDo_ok (u : LUnit) (hl : light u) (hu : Whole u) (g fs : Value) (w0 : World) (hg : SlAt w0 g 3 u.globals GlobalV) (hf : SlAt w0 fs 4 u.funcs FuncV) (hways : CellsAt w0 0 0 waysC) :
    Ret Tryd.prog 29 [.agg #[g, fs]] w0 fun v w' => ∃ x : (Option Addr × Nat) × (Option Addr × Nat) × (Nat → Prop), v = .tuple #[.agg #[.slice x.1.1 u.globals.length x.1.2, .slice x.2.1.1 u.funcs.length x.2.1.2], .agg #[.int .i64 0, .int .i64 0]] ∧ Wd NoS w0 [unitE (trimU u) (.slice x.1.1 u.globals.length x.1.2) (.slice x.2.1.1 u.funcs.length x.2.1.2) x.2.2] w' ∧ True := by
  have hch := check_zero.2 hu.ok
  have hW := wordsU_bd hu.ok
  have hg0 := hg
  have hf0 := hf
  obtain ⟨ga, gn, gc, gb, go, rfl, _⟩ := hg
  obtain ⟨fa, fn, fc, fb, fo, rfl, hfn, _⟩ := hf
  refine ret_enter Tryd.func29 rfl Tryd.ntmps29 rfl (Wd.nil NoS w0) ?_
  repeat (first | refine g_op rfl ?_ | refine g_then ?_ | refine g_nil ?_ | refine g_region ?_ | refine g_seq ?_ | refine g_box rfl fun _ _ => ?_ | refine g_alloc rfl fun _ _ => ?_)
  rename_i p1 _ p2 _ p3 _
  refine g_callV rfl (fun w hw => check_c u hl _ _ w (hg0.keep keeps_global hw.chg) (hf0.keep keeps_func hw.chg) (hways.keep hw.chg)) ?_
  rw [checkL_zero hch]
  repeat (first | refine g_op rfl ?_ | refine g_then ?_ | refine g_nil ?_ | refine g_region ?_ | refine g_seq ?_ | refine g_alloc rfl fun _ _ => ?_ | refine g_storeAgg ?_ | refine g_skip ?_ | refine g_condF ?_)
  rename_i p4 _
  refine g_callV rfl (fun w hw => words_c _ _ u.globals (check_smallG hu.ok) w (hg0.keep keeps_global hw.chg)) ?_
  repeat (first | refine g_op rfl ?_ | refine g_then ?_ | refine g_nil ?_ | refine g_region ?_ | refine g_seq ?_ | refine g_store ?_ | refine g_alloc rfl fun _ _ => ?_)
  rename_i p5 _
  refine g_callE (val := fun x : (Option Addr × Nat) × (Option Addr × Nat) × (Nat → Prop) => .tuple #[.agg #[.slice x.1.1 u.globals.length x.1.2, .slice x.2.1.1 u.funcs.length x.2.1.2], .agg #[.int .i64 0, .int .i64 0]]) (E := fun x => [unitE (trimU u) (.slice x.1.1 u.globals.length x.1.2) (.slice x.2.1.1 u.funcs.length x.2.1.2) x.2.2]) (φ := fun _ => True) rfl (fun w hw => ?_) fun x _ => ?_
  · refine (each_c u (check_glim hch) ⟨check_few hl, check_lim hl hch⟩ _ _ w (hg0.keep keeps_global hw.chg) (hf0.keep keeps_func hw.chg) 64 [] [.pointer (some ⟨p5, 0, none⟩)] (trimF (wordsU u)) fun X hX => ?_).mono fun v w' h => ?_
    · obtain ⟨k, hk⟩ := List.getElem?_of_mem hX
      obtain ⟨R, hXR, hR, hfo⟩ := check_func hch hk
      obtain ⟨h1, _, h2, _⟩ := check_small hu.ok hX
      exact doTurn_c (wordsU u) hW p5 w (fun j v hj => by rw [Nat.zero_add]; exact hw.cellBox 0 (b := p5) (cs := [.int .i64 (wordsL u.globals)]) rfl hj) X R hXR hR (by omega) ⟨by omega, by omega⟩ hfo (check_qdst hu.ok hX)
    · rcases h with ⟨i, X, hX, hL, _⟩ | ⟨_, ga, fa, gc, fc, fp, rfl, hw⟩
      · rw [trim_notLarge hu X (List.mem_of_getElem? hX)] at hL
        cases hL
      · exact ⟨((ga, gc), (fa, fc), fp), rfl, hw, trivial⟩
  obtain ⟨⟨ya, yc⟩, ⟨za, zc⟩, fp⟩ := x
  simp only [List.cons_append, List.nil_append]
  repeat (first | refine g_op rfl ?_ | refine g_then ?_ | refine g_nil ?_ | refine g_storeAgg ?_ | refine g_ret ?_)
  refine g_retCC rfl fun w hw => ⟨((ya, yc), (za, zc), fp), rfl, hw.pick inferInstance, trivial⟩
end Go.Proofs.YtbmnkjaelfjlhaaDoor


/- The law LiveMeans: live.Do keeps what a unit means and the number of blocks; done again it changes nothing. -/
namespace Go.Proofs.YtbmnkjaelfjlhaaDoor
open Go Go.RowKit
attribute [local irreducible] wpListIn Code.wpIn Exit.then Exit.inBlock bodyPost wpQuiet wpAnyIn wpAnyH bodyPostM oneH
set_option maxHeartbeats 4000000

theorem noMore_comes {u v : LUnit} (h : NoMore u v) (hv : CheckOk v) {inp : List Int} (hin : ∀ x ∈ inp, inI x) {f m : Nat} (hc : (countsE u inp.length f).1 = 0) (hs : (resultM u inp f).state ≠ 1) (hf : f ≤ m) (hm : m ≤ 100000) : Comes u v inp f m := by
  obtain ⟨_, hil, _⟩ := countsE_zero hc
  obtain ⟨h1, _⟩ := h inp f m hin hs hf
  refine ⟨?_, h1.state, h1.value, h1.out⟩
  unfold countsE
  rw [if_neg (by simp [check_zero.2 hv]), if_neg (by omega), if_neg (by simp [within]; omega)]
theorem liveMeansLaw_c (u : LUnit) (inp : List Int) (fuel : Int) (_hk : inI fuel) (g fs iv : Value) (w0 : World) (hg : SlAt w0 g 3 u.globals GlobalV) (hf : SlAt w0 fs 4 u.funcs FuncV) (hin : SlAt w0 iv 1 inp IntV) (hways : CellsAt w0 0 0 waysC) :
    RetV Tryd.prog 11 [.agg #[g, fs], iv, .int .i64 fuel] w0 (.bool true) := by
  classical
  have hg0 := hg
  have hf0 := hf
  have hin0 := hin
  obtain ⟨ga, gn, gc, gb, go, rfl, hgn, _⟩ := hg
  obtain ⟨fa, fn, fc, fb, fo, rfl, hfn, hfnc, hfnb, hfc, hfa, hfel⟩ := hf
  obtain ⟨ia, il, ic, _, _, rfl, _⟩ := hin
  refine ret_enter Tryd.func11 rfl Tryd.ntmps11 rfl (Wd.nil NoS w0) ?_
  repeat (first | refine g_op rfl ?_ | refine g_then ?_ | refine g_nil ?_ | refine g_region ?_ | refine g_seq ?_ | refine g_box rfl fun _ _ => ?_)
  rename_i p3 _
  refine g_callE (val := fun b : Bool => .bool b) (E := fun _ => []) (φ := fun b => b = false → slim u) rfl (fun w hw => heavyS_c u _ _ w (hf0.keep keeps_func hw.chg) ⟨_, _, _, rfl⟩) fun b hb => ?_
  simp only [List.nil_append]
  cases b
  case true =>
    repeat (first | refine g_then ?_ | refine g_nil ?_ | refine g_region ?_ | refine g_seq ?_ | refine g_opS rfl ?_ | refine g_condT ?_ | refine g_ret ?_ | refine g_thenRet ?_)
    exact g_retV rfl rfl
  have hsl := hb rfl
  have hl := hsl.light
  repeat (first | refine g_op rfl ?_ | refine g_then ?_ | refine g_nil ?_ | refine g_region ?_ | refine g_seq ?_ | refine g_skip ?_ | refine g_condF ?_)
  by_cases hbad : (checkL u).1 ≠ 0
  · refine g_callV rfl (fun w hw => liveDo_bad u hl hbad _ _ w (hg0.keep keeps_global hw.chg) (hf0.keep keeps_func hw.chg) (hways.keep hw.chg)) ?_
    repeat (first | refine g_op rfl ?_ | refine g_then ?_ | refine g_nil ?_ | refine g_region ?_ | refine g_seq ?_ | refine g_alloc rfl fun _ _ => ?_ | refine g_storeAgg ?_)
    refine g_cond (fun h1 => ?_) (fun h1 => ?_)
    · repeat (first | refine g_op rfl ?_ | refine g_region ?_ | refine g_seq ?_)
      refine g_callV rfl (fun w hw => noneE_c w) ?_
      repeat (first | refine g_then ?_ | refine g_nil ?_ | refine g_opS rfl ?_ | refine g_ret ?_ | refine g_thenRet ?_)
      exact g_retV rfl rfl
    · exact absurd h1 (by simp [hbad])
  have hu : Whole u := ⟨check_zero.1 (by simpa using hbad), nums_of hf0, gnums_of hg0⟩
  have hu2 := (trimU_whole hu).1
  have hmore := (trimU_whole hu).2
  have hl2 := check_light hu2.ok
  have hfn2 : (trimU u).funcs.length = u.funcs.length := by unfold trimU; rw [List.length_map]
  refine g_callE (val := (fun x : (Option Addr × Nat) × (Option Addr × Nat) × (Nat → Prop) => Value.tuple #[.agg #[.slice x.1.1 gn x.1.2, .slice x.2.1.1 fn x.2.1.2], .agg #[.int .i64 0, .int .i64 0]])) (E := (fun x : (Option Addr × Nat) × (Option Addr × Nat) × (Nat → Prop) => [unitE (trimU u) (.slice x.1.1 gn x.1.2) (.slice x.2.1.1 fn x.2.1.2) x.2.2])) (φ := fun _ => True) rfl (fun w hw => by rw [hgn, hfn]; exact liveDo_ok u hl hu _ _ w (by rw [← hgn]; exact hg0.keep keeps_global hw.chg) (by rw [← hfn]; exact hf0.keep keeps_func hw.chg) (hways.keep hw.chg)) fun x _ => ?_
  obtain ⟨⟨ya, yc⟩, ⟨za, zc⟩, fp⟩ := x
  simp only [List.cons_append, List.nil_append]
  repeat (first | refine g_op rfl ?_ | refine g_then ?_ | refine g_nil ?_ | refine g_region ?_ | refine g_seq ?_ | refine g_alloc rfl fun _ _ => ?_ | refine g_storeAgg ?_ | refine g_skip ?_ | refine g_condF ?_)
  rename_i p7 _ p8 _
  have hfpos : 0 < u.funcs.length := by
    have h1 := hu.ok.main
    cases hfs : u.funcs with
    | nil => rw [hfs] at h1; exact absurd h1 (by decide)
    | cons _ _ => simp
  refine g_callV rfl (fun w hw => none_c _ _ (trimU u) w (hw.get (k := 2) rfl).1 (hw.get (k := 2) rfl).2) ?_
  repeat (first | refine g_then ?_ | refine g_nil ?_)
  rw [show (decide ((trimU u).globals.length = 0) && decide ((trimU u).funcs.length = 0)) = false by rw [hfn2, decide_eq_false (show ¬ u.funcs.length = 0 by omega), Bool.and_false]]
  repeat (first | refine g_op rfl ?_ | refine g_then ?_ | refine g_region ?_ | refine g_seq ?_ | refine g_skip ?_ | refine g_condF ?_)
  refine g_callE (val := (fun x : (Option Addr × Nat) × (Option Addr × Nat) × (Nat → Prop) => Value.tuple #[.agg #[.slice x.1.1 gn x.1.2, .slice x.2.1.1 fn x.2.1.2], .agg #[.int .i64 0, .int .i64 0]])) (E := (fun x : (Option Addr × Nat) × (Option Addr × Nat) × (Nat → Prop) => [unitE (trimU u) (.slice x.1.1 gn x.1.2) (.slice x.2.1.1 fn x.2.1.2) x.2.2])) (φ := fun _ => True) rfl (fun w hw => ?_) fun x _ => ?_
  · have h2 := liveDo_ok (trimU u) hl2 hu2 (.slice ya gn yc) (.slice za fn zc) w (hw.get (k := 2) rfl).1 (hw.get (k := 2) rfl).2 (hways.keep hw.chg)
    rw [trimU_again, hfn2, show (trimU u).globals.length = gn from hgn.symm, ← hfn] at h2
    exact h2
  obtain ⟨⟨xa, xc⟩, ⟨va, vc⟩, fp2⟩ := x
  simp only [List.cons_append, List.nil_append]
  repeat (first | refine g_op rfl ?_ | refine g_then ?_ | refine g_nil ?_ | refine g_region ?_ | refine g_seq ?_ | refine g_open ?_ | refine g_alloc rfl fun _ _ => ?_ | refine g_storeAgg ?_)
  rename_i p9 _ p10 _
  rw [show (!decide ((0 : Int) = 0)) = false by simp]
  skip
  refine g_callV rfl (fun w hw => unitsSame_c _ _ _ _ (trimU u) w (hw.get (k := 5) rfl).1 (hw.get (k := 5) rfl).2 (hw.get (k := 2) rfl).1 (hw.get (k := 2) rfl).2) ?_
  repeat (first | refine g_op rfl ?_ | refine g_then ?_ | refine g_nil ?_ | refine g_open ?_)
  rw [show (!decide ((fn : Int) = (fn : Int))) = false by simp]
  repeat (first | refine g_op rfl ?_ | refine g_then ?_ | refine g_nil ?_ | refine g_region ?_ | refine g_seq ?_ | refine g_block ?_ | refine g_skip ?_ | refine g_condF ?_)
  refine g_sel [4, 6, 5] (by decide) ?_
  refine g_eqH (H1 := [Ent.box p7 [.slice ya gn yc, .slice za fn zc] 25, Ent.box p3 [.slice ga gn gc, .slice fa fn fc] 25] ++ [unitE (trimU u) (.slice ya gn yc) (.slice za fn zc) fp]) rfl ?_
  refine g_holdK fun w1 hw1 => ?_
  have hun : SlAt (killW (fps [Ent.box p7 [.slice ya gn yc, .slice za fn zc] 25, Ent.box p3 [.slice ga gn gc, .slice fa fn fc] 25]) w1) (.slice ya gn yc) 3 u.globals GlobalV ∧ SlAt (killW (fps [Ent.box p7 [.slice ya gn yc, .slice za fn zc] 25, Ent.box p3 [.slice ga gn gc, .slice fa fn fc] 25]) w1) (.slice za fn zc) 4 (trimU u).funcs FuncV := hw1.beside (e := unitE (trimU u) (.slice ya gn yc) (.slice za fn zc) fp) (by simp)
  have back : ∀ {E : List Ent} {w : World}, Wd (fps [Ent.box p7 [.slice ya gn yc, .slice za fn zc] 25, Ent.box p3 [.slice ga gn gc, .slice fa fn fc] 25]) (killW (fps [Ent.box p7 [.slice ya gn yc, .slice za fn zc] 25, Ent.box p3 [.slice ga gn gc, .slice fa fn fc] 25]) w1) E w → Wd NoS w0 (E ++ [unitE (trimU u) (.slice ya gn yc) (.slice za fn zc) fp]) w := fun hw => hw1.comp hw.unkill
  have hkp : ∀ {E : List Ent} {w : World}, Wd (fps [Ent.box p7 [.slice ya gn yc, .slice za fn zc] 25, Ent.box p3 [.slice ga gn gc, .slice fa fn fc] 25]) (killW (fps [Ent.box p7 [.slice ya gn yc, .slice za fn zc] 25, Ent.box p3 [.slice ga gn gc, .slice fa fn fc] 25]) w1) E w → ∀ p v, (killW (fps [Ent.box p7 [.slice ya gn yc, .slice za fn zc] 25, Ent.box p3 [.slice ga gn gc, .slice fa fn fc] 25]) w1).cell? p = some v → w.cell? p = some v := fun hw => hw.killKeep
  have hold : ∀ {b o : Nat} {v : Value} {l : List Value}, CellsAt (killW (fps [Ent.box p7 [.slice ya gn yc, .slice za fn zc] 25, Ent.box p3 [.slice ga gn gc, .slice fa fn fc] 25]) w1) b o (v :: l) → OldIs (fps [Ent.box p7 [.slice ya gn yc, .slice za fn zc] 25, Ent.box p3 [.slice ga gn gc, .slice fa fn fc] 25]) b := fun hc => killOldIs hc (by simp)
  have hgk := hg0.keep keeps_global hw1.killOld
  have hfk := hf0.keep keeps_func hw1.killOld
  have hink := hin0.keep keeps_int hw1.killOld
  have hwk := hways.keep hw1.killOld
  generalize killW (fps [Ent.box p7 [.slice ya gn yc, .slice za fn zc] 25, Ent.box p3 [.slice ga gn gc, .slice fa fn fc] 25]) w1 = wk at *
  generalize fps [Ent.box p7 [.slice ya gn yc, .slice za fn zc] 25, Ent.box p3 [.slice ga gn gc, .slice fa fn fc] 25] = SS at *
  obtain ⟨hug, huf⟩ := hun
  have hne : u.funcs ≠ [] := fun e => by rw [e] at hfpos; simp at hfpos
  have hne2 : (trimU u).funcs ≠ [] := fun e => by rw [e] at hfn2; simp at hfn2; omega
  obtain ⟨b1, o1, had1, hold1, hel1⟩ := slKnown hfk hold (fun _ _ h => by obtain ⟨_, e, _⟩ := h; exact ⟨_, _, e⟩) hne
  obtain ⟨b2, o2, had2, hold2, hel2⟩ := slKnown huf hold (fun _ _ h => by obtain ⟨_, e, _⟩ := h; exact ⟨_, _, e⟩) hne2
  refine g_loop (fun (i : Nat) => i ≤ fn) (fun i => [(11, .int .i64 i), (7, .pointer (some ⟨p7, 0, none⟩)), (3, .pointer (some ⟨p3, 0, none⟩)), (1, .slice ia il ic), (2, .int .i64 fuel)]) (fun _ => [Ent.box p7 [.slice ya gn yc, .slice za fn zc] 25, Ent.box p3 [.slice ga gn gc, .slice fa fn fc] 25]) (fun i => fn - i) 0 (Nat.zero_le _) (g_done (by repeat (first | exact trivial | refine ⟨rfl, ?_⟩)) (List.Sublist.refl _)) fun i hi => ?_
  repeat (first | refine g_op rfl ?_ | refine g_then ?_ | refine g_nil ?_ | refine g_region ?_ | refine g_seq ?_)
  refine g_cond (fun h1 => ?_) (fun h1 => ?_)
  · have hlt : i < fn := by simpa using h1
    obtain ⟨X, hX⟩ : ∃ X, u.funcs[i]? = some X := ⟨_, List.getElem?_eq_getElem (by omega)⟩
    have hY : (trimU u).funcs[i]? = some (trimF (wordsU u) X) := by unfold trimU; simp only [List.getElem?_map, hX, Option.map_some]
    obtain ⟨_, hci1, bv1, rfl, _, _, hbv1⟩ := hel1 i X hX
    obtain ⟨_, hci2, bv2, rfl, _, _, hbv2⟩ := hel2 i _ hY
    have hcut : Cuts (wordsU u) X.blocks (trimF (wordsU u) X).blocks := trimB_cuts _ _
    have hlen := hcut.sub.len
    have hmany : manyL (trimF (wordsU u) X).blocks ≤ manyL X.blocks := by
      rcases hcut.less with e | e
      · rw [← e]; exact Nat.le_refl _
      · exact Nat.le_of_lt e
    have hlx := check_lim hl (check_zero.2 hu.ok) X (List.mem_of_getElem? hX)
    have hly := check_lim hl2 (check_zero.2 hu2.ok) _ (List.mem_of_getElem? hY)
    generalize trimF (wordsU u) X = Y at *
    have hbv1' := hbv1
    have hbv2' := hbv2
    obtain ⟨a1, n1, c1, _, _, rfl, hn1, _⟩ := hbv1
    obtain ⟨a2, n2, c2, _, _, rfl, hn2, _⟩ := hbv2
    obtain rfl : n2 = n1 := by omega
    have hli : LtIs i fn := ⟨hlt⟩
    repeat (first | refine g_then ?_ | refine g_seq ?_ | refine g_block ?_ | refine g_skip ?_)
    refine g_draw mixed (by kernel_rfl) ?_
    repeat (refine q_op rfl ?_)
    rw [show (!decide ((n2 : Int) = (n2 : Int))) = false by simp]
    repeat (first | refine q_op rfl ?_ | refine q_open ?_)
    refine q_call rfl (fun w hw => many_c _ _ _ Y.blocks _ w (hbv2'.le mono_block (hkp hw)) hly.n fun b hb => ⟨(hly.each b hb).1, (hly.each b hb).2.2.1⟩) ?_
    repeat (first | refine q_op rfl ?_ | refine q_open ?_)
    refine q_call rfl (fun w hw => many_c _ _ _ X.blocks _ w (hbv1'.le mono_block (hkp hw)) hlx.n fun b hb => ⟨(hlx.each b hb).1, (hlx.each b hb).2.2.1⟩) ?_
    repeat (first | refine q_op rfl ?_ | refine q_open ?_ | refine q_nil ?_)
    rw [show decide ((manyL X.blocks : Int) < (manyL Y.blocks : Int)) = false by simp; omega]
    repeat (first | refine g_op rfl ?_ | refine g_then ?_ | refine g_nil ?_ | refine g_region ?_ | refine g_opS rfl ?_ | refine g_inBlock ?_ | refine g_skip ?_ | refine g_condF ?_ | refine g_add rfl (by omega) (by omega) ?_)
    exact g_next (i + 1) (by omega) (by omega) (by repeat (first | exact trivial | refine ⟨rfl, ?_⟩)) (List.Sublist.refl _)
  · refine g_unhold back ?_
    simp only [List.cons_append, List.nil_append]
    repeat (first | refine g_op rfl ?_ | refine g_then ?_ | refine g_region ?_ | refine g_seq ?_ | refine g_exit ?_ | refine g_thenExit ?_ | refine g_exitHere ?_)
    have hini : ∀ x ∈ inp, inI x := fun x hx => by obtain ⟨_, _, h9⟩ := hin0.el hx; exact h9
    refine g_callV rfl (fun w hw => same_c u (trimU u) hl hl2 _ _ _ _ _ inp fuel w (hg0.keep keeps_global hw.chg) (hf0.keep keeps_func hw.chg) (hw.get (k := 2) rfl).1 (hw.get (k := 2) rfl).2 (hin0.keep keeps_int hw.chg) (hways.keep hw.chg) fun f hf2 hc0 hst => noMore_comes hmore hu2.ok hini hc0 hst (by omega) (by omega)) ?_
    repeat (first | refine g_op rfl ?_ | refine g_then ?_ | refine g_nil ?_ | refine g_ret ?_)
    exact g_retV rfl rfl
end Go.Proofs.YtbmnkjaelfjlhaaDoor

