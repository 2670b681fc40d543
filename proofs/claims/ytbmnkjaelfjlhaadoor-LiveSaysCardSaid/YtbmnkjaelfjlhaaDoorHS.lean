/- Texts joined: DoE DoF. -/
import Derived.Test.YtbmnkjaelfjlhaaDoorHJ
import Derived.Test.YtbmnkjaelfjlhaaDoorHK
import Derived.Test.YtbmnkjaelfjlhaaDoorHN
import Derived.Test.YtbmnkjaelfjlhaaDoorHQ
import Derived.Test.YtbmnkjaelfjlhaaDoorHR
/- live.Do: what it makes of a unit that passes the check. -/
namespace Go.Proofs.YtbmnkjaelfjlhaaDoor
open Go Go.RowKit
attribute [local irreducible] wpListIn Code.wpIn Exit.then Exit.inBlock bodyPost wpQuiet wpAnyIn wpAnyH bodyPostM oneH
set_option maxHeartbeats 4000000

theorem check_qdst {u : LUnit} (hc : CheckOk u) {X : LFunc} (hX : X ∈ u.funcs) : QDst X.blocks := fun B hB x hx h1 h2 => by
  obtain ⟨b, hb⟩ := List.getElem?_of_mem hB
  exact ins_dst ((hc.body X hX).list b B hb x hx) h1 h2
theorem check_small {u : LUnit} (hc : CheckOk u) {X : LFunc} (hX : X ∈ u.funcs) : (0 ≤ X.params ∧ X.params ≤ 6) ∧ (0 ≤ X.regs ∧ X.regs ≤ 100) ∧ X.blocks.length ≤ 40 ∧ sizeOfBs X.blocks ≤ 300 := by
  obtain ⟨j, hj⟩ := List.getElem?_of_mem hX
  have h0 := hc.head j (List.getElem?_eq_some_iff.1 hj).1
  unfold headAt at0 at h0
  rw [hj] at h0
  obtain ⟨_, _, h3, h4, h5, h6⟩ := head_zero.1 h0
  exact ⟨h3, by omega, h5.2, h6⟩
theorem many_size (bl : List LBlock) : (manyL bl : Int) = sizeOfBs bl := by
  unfold manyL sizeOfBs
  induction bl with
  | nil => rfl
  | cons b bl ih => simp only [List.map_cons, List.sum_cons, ← ih]; omega
theorem check_notLarge {u : LUnit} (hc : CheckOk u) : ∀ X ∈ u.funcs, largeF X = false := fun X hX => by
  obtain ⟨_, h1, h2, h3⟩ := check_small hc hX
  unfold largeF largeL
  have := many_size X.blocks
  simp only [Bool.or_eq_false_iff, decide_eq_false_iff_not]
  omega
theorem check_smallG {u : LUnit} (hc : CheckOk u) : smallG u.globals := by
  have h0 := hc.globs
  refine ⟨by omega, fun g hg => ?_⟩
  obtain ⟨i, hi⟩ := List.getElem?_of_mem hg
  have hz := hc.glob i (List.getElem?_eq_some_iff.1 hi).1
  unfold globAt at0 at hz
  rw [hi] at hz
  simp only at hz
  unfold globErr at hz
  split at hz
  · cases hz
  split at hz
  · cases hz
  split at hz
  · cases hz
  rename_i h1
  simp only [within, Bool.not_eq_true', Bool.and_eq_false_iff, decide_eq_false_iff_not, not_or, Decidable.not_not] at h1
  omega
theorem trimU_whole {u : LUnit} (h : Whole u) : Whole (trimU u) ∧ NoMore u (trimU u) := cutsU_whole h (trimU_cuts u)
theorem trim_notLarge {u : LUnit} (h : Whole u) : ∀ X ∈ u.funcs, largeF (trimF (wordsU u) X) = false := fun X hX =>
  check_notLarge (trimU_whole h).1.ok _ (by unfold trimU; exact List.mem_map.2 ⟨X, hX, rfl⟩)
theorem doTurn_c (W : Int) (hW : 0 ≤ W ∧ W ≤ 9223372036854775807) (p : Nat) (w0 : World) (hp : CellsAt w0 p 0 [.int .i64 W]) (X : LFunc) (R : Nat) (hXR : X.regs = R) (hR : R ≤ 100) (hlen : X.blocks.length ≤ 100) (hpar : inI X.params) (hf : FuncOk R X.blocks) (hqd : QDst X.blocks) :
    Turns w0 64 [] [.pointer (some ⟨p, 0, none⟩)] (trimF W) X := by
  obtain ⟨xn, xp, xr, xb⟩ := X
  simp only at hXR hlen hpar hf hqd
  subst hXR
  intro a c bs w hbs hbd hch hfr hw
  simp only at hbs
  subst hbs
  have hpw : CellsAt w p 0 [.int .i64 W] := hp.keep hch
  have hold : OldIs (fps (fnE a c bs)) p := ⟨fun h => by have := hfr p h; have := World.block_lt_of_cell? w0 ⟨p, 0, none⟩ (hp 0 _ rfl); simp only at this; omega⟩
  refine Ret.mono (R := fun u w' => ∃ x : List BRow, u = .agg #[.string xn, .int .i64 xp, .int .i64 R, .slice a x.length c] ∧ Wd (fps (fnE a c bs)) w (fnE a c x) w' ∧ x.map BRow.blk = trimB W (bs.map BRow.blk) ∧ x.length = bs.length ∧ ∀ b ∈ x, b.Bd) ?_ fun u w' ⟨x, h1, h2, h3, h4, h5⟩ => ⟨(a, c, x), h1, h2, h3, h5, show x.length ≤ 1000 by rw [List.length_map] at hlen; omega, hpar, show inI (R : Int) from ⟨by omega, by omega⟩⟩
  simp only [List.nil_append, List.cons_append]
  have hcp : CellsIs w p 0 _ := ⟨hpw⟩
  refine ret_enter Tryd.func64 rfl Tryd.ntmps64 rfl hw ?_
  generalize fps (fnE a c bs) = SS at *
  repeat (first | refine g_then ?_ | refine g_nil ?_ | refine g_region ?_ | refine g_seq ?_ | refine g_box rfl fun _ _ => ?_ | refine g_alloc rfl fun _ _ => ?_ | refine g_block ?_)
  rename_i p2 _ p3 _
  have hbl : bs.length ≤ 100 := by rw [List.length_map] at hlen; exact hlen
  refine g_loop (fun x : List BRow => Cuts W (bs.map BRow.blk) (x.map BRow.blk) ∧ x.length = bs.length ∧ ∀ b ∈ x, b.Bd) (fun _ => [(1, .pointer (some ⟨p, 0, none⟩)), (2, .pointer (some ⟨p2, 0, none⟩)), (3, .pointer (some ⟨p3, 0, none⟩))]) (fun x => Ent.box p2 [.string xn, .int .i64 xp, .int .i64 R, .slice a bs.length c] 35 :: (fnE a c x ++ [Ent.box p3 [.string ByteArray.empty, .int .i64 0, .int .i64 0, .slice none 0 0] 35])) (fun x => sizeN (x.map BRow.blk)) bs ⟨.refl _, rfl, hbd⟩ (g_permH (List.perm_append_comm (l₁ := [Ent.box p3 [.string ByteArray.empty, .int .i64 0, .int .i64 0, .slice none 0 0] 35]) (l₂ := Ent.box p2 [.string xn, .int .i64 xp, .int .i64 R, .slice a bs.length c] 35 :: fnE a c bs)) (g_done (by repeat (first | exact trivial | refine ⟨rfl, ?_⟩)) (List.Sublist.refl _))) fun x ⟨hc1, hc2, hc3⟩ => ?_
  repeat (first | refine g_op rfl ?_ | refine g_region ?_ | refine g_seq ?_)
  rw [← hc2]
  refine g_eqH (H1 := (Ent.box p2 [.string xn, .int .i64 xp, .int .i64 R, .slice a x.length c] 35 :: fnE a c x) ++ [Ent.box p3 [.string ByteArray.empty, .int .i64 0, .int .i64 0, .slice none 0 0] 35]) rfl ?_
  have hf2 := hc1.sub.funcOk hf
  have hq2 := hc1.sub.qdst hqd
  refine g_callS (val := fun y : List (List Bool) × List BRow => .bool (goneTo W y.1 (x.map BRow.blk) x.length)) (E := fun y => Ent.box p2 [.string xn, .int .i64 xp, .int .i64 R, .slice a x.length c] 35 :: fnE a c y.2) (φ := fun y => OutOk R (x.map BRow.blk) y.1 ∧ y.2.map BRow.blk = onceTo W y.1 (x.map BRow.blk) x.length ∧ y.2.length = x.length ∧ ∀ b ∈ y.2, b.Bd) rfl
    (fun w hw => (once_c W hW p2 _ _ R hR a c x (by omega) hc3 hf2 hq2 w hw.pre).mono fun u w' ⟨outs, bs', h1, h2, h3⟩ => ⟨(outs, bs'), h1, h2, h3⟩) fun y ⟨h1, h2, h3, h4⟩ => ?_
  obtain ⟨outs, bs'⟩ := y
  simp only at h1 h2 h3 h4
  have hxl : x.length = (x.map BRow.blk).length := (List.length_map _).symm
  have hstep := once_cuts (W := W) hf2 h1 x.length (by omega)
  rw [← h2] at hstep
  simp only [List.cons_append]
  repeat (first | refine g_then ?_ | refine g_nil ?_)
  refine g_cond (fun h5 => ?_) (fun h5 => ?_)
  · repeat (first | refine g_then ?_ | refine g_inBlock ?_ | refine g_block ?_ | refine g_skip ?_)
    refine g_next bs' ⟨hc1.trans hstep, by omega, h4⟩ ?_ (by repeat (first | exact trivial | refine ⟨rfl, ?_⟩)) ?_
    · rw [hxl] at h5 h2
      have := once_less hf2 h1 h5
      rw [h2]
      exact this
    · rw [hc2]
      exact List.Sublist.refl _
  · refine g_permH (List.perm_append_comm (l₁ := Ent.box p2 [.string xn, .int .i64 xp, .int .i64 R, .slice a x.length c] 35 :: fnE a c bs') (l₂ := [Ent.box p3 [.string ByteArray.empty, .int .i64 0, .int .i64 0, .slice none 0 0] 35])) ?_
    simp only [List.cons_append, List.nil_append]
    repeat (first | refine g_op rfl ?_ | refine g_then ?_ | refine g_nil ?_ | refine g_region ?_ | refine g_seq ?_ | refine g_storeAgg ?_ | refine g_exit ?_ | refine g_thenExit ?_ | refine g_exitHere ?_ | refine g_ret ?_)
    refine g_retC rfl fun w hw => ⟨bs', ?_, hw.sub (List.Sublist.cons _ (List.Sublist.cons _ (List.Sublist.refl _))), ?_, by omega, h4⟩
    · rw [h3]
    · rw [hxl] at h5 h2
      obtain ⟨h6, h7⟩ := once_end hf2 hq2 h1 h5
      rw [h2, h6]
      exact trimB_eq hc1 h7
theorem wordsU_bd {u : LUnit} (hc : CheckOk u) : 0 ≤ wordsU u ∧ wordsU u ≤ 9223372036854775807 := by
  have h0 := wordsTo_bd (check_smallG hc) u.globals.length
  rw [wordsTo_all] at h0
  have := (check_smallG hc).1
  have e : wordsL u.globals = wordsU u := rfl
  omega
theorem liveDo_bad (u : LUnit) (hl : light u) (hbad : (checkL u).1 ≠ 0) (g fs : Value) (w0 : World) (hg : SlAt w0 g 3 u.globals GlobalV) (hf : SlAt w0 fs 4 u.funcs FuncV) (hways : CellsAt w0 0 0 waysC) :
    RetV Tryd.prog 29 [.agg #[g, fs]] w0 (.tuple #[.agg #[.slice none 0 0, .slice none 0 0], .agg #[.int .i64 (checkL u).1, .int .i64 (checkL u).2]]) := by
  have hg0 := hg
  have hf0 := hf
  obtain ⟨ga, gn, gc, gb, go, rfl, _⟩ := hg
  obtain ⟨fa, fn, fc, fb, fo, rfl, hfn, _⟩ := hf
  refine ret_enter Tryd.func29 rfl Tryd.ntmps29 rfl (Wd.nil NoS w0) ?_
  repeat (first | refine g_op rfl ?_ | refine g_then ?_ | refine g_nil ?_ | refine g_region ?_ | refine g_seq ?_ | refine g_box rfl fun _ _ => ?_ | refine g_alloc rfl fun _ _ => ?_)
  rename_i p1 _ p2 _ p3 _
  refine g_callV rfl (fun w hw => check_c u hl _ _ w (hg0.keep keeps_global hw.chg) (hf0.keep keeps_func hw.chg) (hways.keep hw.chg)) ?_
  repeat (first | refine g_op rfl ?_ | refine g_then ?_ | refine g_nil ?_ | refine g_region ?_ | refine g_seq ?_ | refine g_alloc rfl fun _ _ => ?_ | refine g_storeAgg ?_)
  rename_i p4 _
  refine g_cond (fun h1 => ?_) (fun h1 => ?_)
  · repeat (refine g_seq ?_)
    refine g_drawW [(2, .pointer (some ⟨p2, 0, none⟩)), (3, .pointer (some ⟨p3, 0, none⟩))] [Ent.box p3 [.int .i64 (checkL u).1, .int .i64 (checkL u).2] 28, Ent.box p2 [.slice none 0 0, .slice none 0 0] 25] mixed ?_ ?_
    · repeat' (first | refine g_any0 (by decide +kernel) ?_ | refine g_any (by decide +kernel) ?_ | refine any_nil | refine any_skip (by decide +kernel) ?_ | refine any_cons ?_ ?_ | refine g_op rfl ?_ | refine g_then ?_ | refine g_nil ?_ | refine g_storeAgg ?_)
      all_goals exact g_done (by repeat (first | exact trivial | refine ⟨rfl, ?_⟩)) (by simp)
    · repeat (first | refine g_then ?_ | refine g_ret ?_ | refine g_thenRet ?_)
      exact g_retCC rfl fun _ hw => ⟨rfl, hw.chg⟩
  · simp at h1
    omega
theorem liveDo_ok (u : LUnit) (hl : light u) (hu : Whole u) (g fs : Value) (w0 : World) (hg : SlAt w0 g 3 u.globals GlobalV) (hf : SlAt w0 fs 4 u.funcs FuncV) (hways : CellsAt w0 0 0 waysC) :
    Ret Tryd.prog 29 [.agg #[g, fs]] w0 fun v w' => ∃ x : (Option Addr × Nat) × (Option Addr × Nat) × (Nat → Prop), v = .tuple #[.agg #[.slice x.1.1 u.globals.length x.1.2, .slice x.2.1.1 u.funcs.length x.2.1.2], .agg #[.int .i64 0, .int .i64 0]] ∧ Wd NoS w0 [unitE (trimU u) (.slice x.1.1 u.globals.length x.1.2) (.slice x.2.1.1 u.funcs.length x.2.1.2) x.2.2] w' ∧ True := by
  have hch := check_zero.2 hu.ok
  have hW := wordsU_bd hu.ok
  have hg0 := hg
  have hf0 := hf
  obtain ⟨ga, gn, gc, gb, go, rfl, _⟩ := hg
  obtain ⟨fa, fn, fc, fb, fo, rfl, hfn, _⟩ := hf
  refine ret_enter Tryd.func29 rfl Tryd.ntmps29 rfl (Wd.nil NoS w0) ?_
  repeat (first | refine g_op rfl ?_ | refine g_then ?_ | refine g_nil ?_ | refine g_region ?_ | refine g_seq ?_ | refine g_box rfl fun _ _ => ?_ | refine g_alloc rfl fun _ _ => ?_)
  rename_i p1 _ p2 _ p3 _
  refine g_callV rfl (fun w hw => check_c u hl _ _ w (hg0.keep keeps_global hw.chg) (hf0.keep keeps_func hw.chg) (hways.keep hw.chg)) ?_
  rw [checkL_zero hch]
  repeat (first | refine g_op rfl ?_ | refine g_then ?_ | refine g_nil ?_ | refine g_region ?_ | refine g_seq ?_ | refine g_alloc rfl fun _ _ => ?_ | refine g_storeAgg ?_ | refine g_skip ?_ | refine g_condF ?_)
  rename_i p4 _
  refine g_callV rfl (fun w hw => words_c _ _ u.globals (check_smallG hu.ok) w (hg0.keep keeps_global hw.chg)) ?_
  repeat (first | refine g_op rfl ?_ | refine g_then ?_ | refine g_nil ?_ | refine g_region ?_ | refine g_seq ?_ | refine g_store ?_ | refine g_alloc rfl fun _ _ => ?_)
  rename_i p5 _
  refine g_callE (val := fun x : (Option Addr × Nat) × (Option Addr × Nat) × (Nat → Prop) => .tuple #[.agg #[.slice x.1.1 u.globals.length x.1.2, .slice x.2.1.1 u.funcs.length x.2.1.2], .agg #[.int .i64 0, .int .i64 0]]) (E := fun x => [unitE (trimU u) (.slice x.1.1 u.globals.length x.1.2) (.slice x.2.1.1 u.funcs.length x.2.1.2) x.2.2]) (φ := fun _ => True) rfl (fun w hw => ?_) fun x _ => ?_
  · refine (each_c u (check_glim hch) ⟨check_few hl, check_lim hl hch⟩ _ _ w (hg0.keep keeps_global hw.chg) (hf0.keep keeps_func hw.chg) 64 [] [.pointer (some ⟨p5, 0, none⟩)] (trimF (wordsU u)) fun X hX => ?_).mono fun v w' h => ?_
    · obtain ⟨k, hk⟩ := List.getElem?_of_mem hX
      obtain ⟨R, hXR, hR, hfo⟩ := check_func hch hk
      obtain ⟨h1, _, h2, _⟩ := check_small hu.ok hX
      exact doTurn_c (wordsU u) hW p5 w (fun j v hj => by rw [Nat.zero_add]; exact hw.cellBox 0 (b := p5) (cs := [.int .i64 (wordsL u.globals)]) rfl hj) X R hXR hR (by omega) ⟨by omega, by omega⟩ hfo (check_qdst hu.ok hX)
    · rcases h with ⟨i, X, hX, hL, _⟩ | ⟨_, ga, fa, gc, fc, fp, rfl, hw⟩
      · rw [trim_notLarge hu X (List.mem_of_getElem? hX)] at hL
        cases hL
      · exact ⟨((ga, gc), (fa, fc), fp), rfl, hw, trivial⟩
  obtain ⟨⟨ya, yc⟩, ⟨za, zc⟩, fp⟩ := x
  simp only [List.cons_append, List.nil_append]
  repeat (first | refine g_op rfl ?_ | refine g_then ?_ | refine g_nil ?_ | refine g_storeAgg ?_ | refine g_ret ?_)
  refine g_retCC rfl fun w hw => ⟨((ya, yc), (za, zc), fp), rfl, hw.pick inferInstance, trivial⟩
end Go.Proofs.YtbmnkjaelfjlhaaDoor


/- The law LiveMeans: live.Do keeps what a unit means and the number of blocks; done again it changes nothing. -/
namespace Go.Proofs.YtbmnkjaelfjlhaaDoor
open Go Go.RowKit
attribute [local irreducible] wpListIn Code.wpIn Exit.then Exit.inBlock bodyPost wpQuiet wpAnyIn wpAnyH bodyPostM oneH
set_option maxHeartbeats 4000000

end Go.Proofs.YtbmnkjaelfjlhaaDoor

