/- Texts joined: Round. -/
import Derived.Test.YtoahickmkkcneaaDoorGE
import Derived.Test.YtoahickmkkcneaaDoorGO
/- The law LoopsRound, walked: where all is tame a block is of a loop just where one can go round it. -/
namespace Go.Proofs.YtoahickmkkcneaaDoor
open Go Go.RowKit
attribute [local irreducible] wpListIn Code.wpIn Exit.then Exit.inBlock bodyPost wpQuiet wpAnyIn wpAnyH bodyPostM
set_option maxHeartbeats 8000000

section
variable {P : Program} {N : Nat} {ds : List Deferred} {S : Nat → Prop} {w0 : World} {L : List (Nat × Value)} {H Hr : List Ent} {M : Act → World → Prop} {l : List Oper} {fuel : Nat} {listed : Array Bool}
/-- under a guard that was passed over itself -/
theorem h_takeU {d ty j t : Nat} (i : Nat) {want : Bool} {pos : String} {aft : Array Go.Edge} {op : Op} [ho : ListAt l i ⟨some d, op, ty, pos, aft, some (j, want)⟩] [hj : DstOf l.toArray j t] [hb : SlotIs L t undef] (hd : okPut d N L = true)
    (hr : ((Region.noSelect l.toArray && Region.free .any l.toArray listed i) && (Region.ready .any l.toArray listed).contains i) = true) (hH : Hr.Sublist H)
    (k : G N ds S w0 ((d, undef) :: L) H (wpAnyH P .any l.toArray (OnlyN M) (Wd S w0 Hr) fuel (listed.setIfInBounds i true))) : G N ds S w0 L H (wpAnyH P .any l.toArray (OnlyN M) (Wd S w0 Hr) (fuel + 1) listed) := fun a w hS => by
  simp only [Bool.and_eq_true] at hr
  refine wpAnyH_take (i := i) (oi := ⟨some d, op, ty, pos, aft, some (j, want)⟩) (v := undef) (by simpa using ho.at') hr.1.1 hr.1.2 hr.2 (fun c a w hh => hh) (.inr ⟨?_, rfl⟩) (hS.wd.sub hH) (k _ _ ⟨hS.fr.putOk hd undef, hS.wd⟩)
  simp only [Region.wanted, hS.fr.yieldU (ops := l.toArray) (j := j)]
  rfl
end
theorem deepTo_zero {bl : List LBlock} {n x : Nat} : deepTo bl n x = 0 ↔ ∀ h, h < n → ¬ InLoop bl h x := by
  classical
  unfold deepTo
  rw [List.length_eq_zero_iff, List.filter_eq_nil_iff]
  simp
theorem inLoop_round {bl : List LBlock} (hok : GoodB bl) (h0 : 0 < bl.length) {h x : Nat} (hl : InLoop bl h x) : Round bl x := by
  obtain ⟨t, ht, hc⟩ := hl
  exact inT_round hok h0 (h := h) (ts := [t]) (fun u hu => by rw [List.mem_singleton.1 hu]; exact ht) ⟨t, List.mem_singleton.2 rfl, hc⟩
theorem deep_round {bl : List LBlock} (hok : GoodB bl) (h0 : 0 < bl.length) {x : Nat} (hn : ¬ Round bl x) : deepTo bl bl.length x = 0 :=
  deepTo_zero.2 fun _ _ hl => hn (inLoop_round hok h0 hl)
theorem round_deep {bl : List LBlock} (hok : GoodB bl) (h0 : 0 < bl.length) (ht : Tame bl) {x : Nat} (hr : Round bl x) : deepTo bl bl.length x ≠ 0 := fun e => by
  obtain ⟨h, hl⟩ := tame_loop hok h0 ht hr
  exact deepTo_zero.1 e h (hok.rch h0 hl.dom.1) hl
theorem tameL_tame {bl : List LBlock} (hok : GoodB bl) (h0 : 0 < bl.length) (h : tameL bl) : Tame bl := fun u t hb => h (u, t) ((backL_mem hok h0).2 hb)
/-- what the law counts: of a ring with one of the first blocks, or of a ring of its own -/
def RoundTo (bl : List LBlock) (n b : Nat) : Prop := Edge bl b b ∨ ∃ j, j < n ∧ j ≠ b ∧ Mut bl b j
theorem roundTo_succ {bl : List LBlock} {n b : Nat} : RoundTo bl (n + 1) b ↔ (RoundTo bl n b ∨ (n ≠ b ∧ Mut bl b n)) := by
  constructor
  · rintro (h | ⟨j, hj, h1, h2⟩)
    · exact .inl (.inl h)
    · by_cases e : j = n
      · subst e; exact .inr ⟨h1, h2⟩
      · exact .inl (.inr ⟨j, by omega, h1, h2⟩)
  · rintro ((h | ⟨j, hj, h1, h2⟩) | ⟨h1, h2⟩)
    · exact .inl h
    · exact .inr ⟨j, by omega, h1, h2⟩
    · exact .inr ⟨n, by omega, h1, h2⟩
theorem reachedK (nm pa re : Value) (bl : List LBlock) (bs : Value) (hbsl : ∃ a n c, bs = .slice a n c) (w0 : World) (hbs : SlAt w0 bs 6 bl BlockV) (hlen : bl.length ≤ 100) (hok : GoodB bl) (hb : 0 < bl.length) :
    Ret Tryd.prog 50 [.agg #[nm, pa, re, bs]] w0 fun u w' => ∃ x : Option Addr × Nat × List Nat × (Nat → Prop), u = .slice x.1 x.2.2.1.length x.2.1 ∧ Wd NoS w0 [⟨x.2.2.2, fun w => SlAt w (.slice x.1 x.2.2.1.length x.2.1) 1 (x.2.2.1.map fun x : Nat => (x : Int)) IntV⟩] w' ∧ FromR bl (-1) 0 x.2.2.1 := by
  refine (reached_c nm pa re bl bs hbsl w0 hbs hlen hok hb).mono fun u w' ⟨x, h1, h2, h3⟩ => ?_
  have hll : x.2.2.length ≤ bl.length := nodup_len _ _ h3.1 h3.2.1
  exact ⟨(x.1, x.2.1, x.2.2, _), h1, Wd.ints (by rw [map_intN]; exact h2) (by simp) (by omega) (inIs fun y hy => by have := h3.2.1 y hy; omega), h3⟩
theorem roundLaw_c (u : LUnit) (k : Int) (hk : inI k) (g fs : Value) (w0 : World) (hg : SlAt w0 g 3 u.globals GlobalV) (hf : SlAt w0 fs 4 u.funcs FuncV) (hways : CellsAt w0 0 0 waysC) :
    RetV Tryd.prog 15 [.agg #[g, fs], .int .i64 k] w0 (.bool true) := by
  classical
  have hg0 := hg
  have hf0 := hf
  obtain ⟨ga, gn, gc, gb, go, rfl, _⟩ := hg
  obtain ⟨fa, fn, fc, fb, fo, rfl, hfn, hfnc, hfnb, hfc, hfa, hfel⟩ := hf
  refine ret_enter Tryd.func15 rfl Tryd.ntmps15 rfl (Wd.nil NoS w0) ?_
  repeat (first | refine g_op rfl ?_ | refine g_then ?_ | refine g_nil ?_ | refine g_region ?_ | refine g_seq ?_ | refine g_box rfl fun _ _ => ?_)
  rename_i p2 _
  refine g_callE (val := fun b : Bool => .bool b) (E := fun _ => []) (φ := fun b => b = false → light u) rfl (fun w hw => heavy_c u _ _ w (hf0.keep keeps_func hw.chg) ⟨_, _, _, rfl⟩) fun b hb => ?_
  simp only [List.nil_append]
  cases b
  case true =>
    repeat (first | refine g_then ?_ | refine g_nil ?_ | refine g_region ?_ | refine g_seq ?_ | refine g_opS rfl ?_ | refine g_condT ?_ | refine g_ret ?_ | refine g_thenRet ?_)
    exact g_retV rfl rfl
  have hl := hb rfl
  repeat (first | refine g_op rfl ?_ | refine g_then ?_ | refine g_nil ?_ | refine g_region ?_ | refine g_seq ?_ | refine g_skip ?_ | refine g_condF ?_)
  by_cases hbad : (askedL u k).1 ≠ 0
  · refine g_callV rfl (fun w hw => deep_bad u hl k hk hbad _ _ w (hg0.keep keeps_global hw.chg) (hf0.keep keeps_func hw.chg) (hways.keep hw.chg)) ?_
    repeat (first | refine g_op rfl ?_ | refine g_then ?_ | refine g_nil ?_ | refine g_region ?_ | refine g_seq ?_ | refine g_alloc rfl fun _ _ => ?_ | refine g_storeAgg ?_)
    refine g_callV rfl (fun w hw => tame_bad u hl k hk hbad _ _ w (hg0.keep keeps_global hw.chg) (hf0.keep keeps_func hw.chg) (hways.keep hw.chg)) ?_
    repeat (first | refine g_op rfl ?_ | refine g_then ?_ | refine g_nil ?_ | refine g_region ?_ | refine g_seq ?_ | refine g_alloc rfl fun _ _ => ?_ | refine g_storeAgg ?_)
    refine g_cond (fun h1 => ?_) (fun h1 => ?_)
    · repeat (first | refine g_op rfl ?_ | refine g_region ?_ | refine g_seq ?_)
      rw [show (decide ((askedL u k).1 = (askedL u k).1) && decide ((askedL u k).2 = (askedL u k).2)) = true by simp]
      repeat (first | refine g_op rfl ?_ | refine g_then ?_ | refine g_nil ?_ | refine g_opS rfl ?_ | refine g_open ?_ | refine g_ret ?_ | refine g_thenRet ?_)
      exact g_retV rfl rfl
    · exact absurd h1 (by simp [hbad])
  have hgood : (askedL u k).1 = 0 := by simpa using hbad
  obtain ⟨hch, has, i, X, rfl, hX, hok⟩ := asked_ok hgood
  have hpos := check_pos hch hX
  have hil : i < fn := by rw [hfn]; exact (List.getElem?_eq_some_iff.1 hX).1
  have had : AddrIs fa fb fo := ⟨hfa (ne_of_get hX)⟩
  have hli : LtIs i fn := ⟨hil⟩
  obtain ⟨cs, hcs, bv, rfl, hpi, hri, hbv⟩ := hfel i X hX
  have hci : CellsIs w0 fb (fo + i * 4) _ := ⟨hcs⟩
  have hbv0 := hbv
  obtain ⟨ba, bn, bc, _, _, rfl, hbn, _⟩ := hbv
  have h24 := (hl.2 X (List.mem_of_getElem? hX)).1
  refine g_callK (s := 1) (l := deepL X.blocks) (V := IntV) (mk := fun v => .tuple #[v, .agg #[.int .i64 0, .int .i64 0]]) rfl (fun w hw => deep_ok u hl i hgood X hX hok hpos hch _ _ w (hg0.keep keeps_global hw.chg) (hf0.keep keeps_func hw.chg) (hways.keep hw.chg)) fun ra rc rp => ?_
  repeat (first | refine g_op rfl ?_ | refine g_then ?_ | refine g_nil ?_ | refine g_region ?_ | refine g_seq ?_ | refine g_alloc rfl fun _ _ => ?_ | refine g_storeAgg ?_)
  rename_i p6 _
  refine g_callV rfl (fun w hw => tame_ok u hl i hgood X hX hok hpos hch _ _ w (hg0.keep keeps_global hw.chg) (hf0.keep keeps_func hw.chg) (hways.keep hw.chg)) ?_
  rw [deepL_len, ← hbn]
  repeat (first | refine g_op rfl ?_ | refine g_then ?_ | refine g_nil ?_ | refine g_region ?_ | refine g_seq ?_ | refine g_open ?_ | refine g_alloc rfl fun _ _ => ?_ | refine g_storeAgg ?_ | refine g_skip ?_ | refine g_condF ?_)
  rename_i p8 _
  rw [show (!decide ((0 : Int) = 0)) = false by simp, show decide ((i : Int) < 0) = false by simp]
  repeat (first | refine g_op rfl ?_ | refine g_open ?_)
  rw [show decide ((fn : Int) ≤ (i : Int)) = false by simp; omega]
  repeat (first | refine g_op rfl ?_ | refine g_then ?_ | refine g_nil ?_ | refine g_open ?_)
  rw [show (!decide ((bn : Int) = (bn : Int))) = false by simp]
  repeat (first | refine g_op rfl ?_ | refine g_then ?_ | refine g_region ?_ | refine g_seq ?_ | refine g_skip ?_ | refine g_condF ?_)
  refine g_callE (val := fun x : Option Addr × Nat × List Nat × (Nat → Prop) => .slice x.1 x.2.2.1.length x.2.1) (E := fun x => [⟨x.2.2.2, fun w => SlAt w (.slice x.1 x.2.2.1.length x.2.1) 1 (x.2.2.1.map fun x : Nat => (x : Int)) IntV⟩]) (φ := fun x => FromR X.blocks (-1) 0 x.2.2.1) rfl (fun w hw => reachedK _ _ _ X.blocks _ ⟨_, _, _, rfl⟩ w (hbv0.keep keeps_block hw.chg) (by omega) hok hpos) fun x hR => ?_
  obtain ⟨sa, sc, rl, sp⟩ := x
  simp only [List.cons_append, List.nil_append] at hR ⊢
  repeat (first | refine g_op rfl ?_ | refine g_then ?_ | refine g_nil ?_ | refine g_region ?_ | refine g_seq ?_ | refine g_block ?_)
  refine g_sel [4, 0, 3] (by decide) ?_
  refine g_eqH (H1 := [Ent.box p2 [.slice ga gn gc, .slice fa fn fc] 25] ++ [(⟨sp, fun w => SlAt w (.slice sa rl.length sc) 1 (rl.map fun x : Nat => (x : Int)) IntV⟩ : Ent), (⟨rp, fun w => SlAt w (.slice ra bn rc) 1 (deepL X.blocks) IntV⟩ : Ent)]) rfl ?_
  refine g_holdK fun w1 hw1 => ?_
  have hrk : SlAt (killW (fps [Ent.box p2 [.slice ga gn gc, .slice fa fn fc] 25]) w1) (.slice sa rl.length sc) 1 (rl.map fun x : Nat => (x : Int)) IntV := hw1.beside (e := (⟨sp, fun w => SlAt w (.slice sa rl.length sc) 1 (rl.map fun x : Nat => (x : Int)) IntV⟩ : Ent)) (by simp)
  have hdk : SlAt (killW (fps [Ent.box p2 [.slice ga gn gc, .slice fa fn fc] 25]) w1) (.slice ra bn rc) 1 (deepL X.blocks) IntV := hw1.beside (e := (⟨rp, fun w => SlAt w (.slice ra bn rc) 1 (deepL X.blocks) IntV⟩ : Ent)) (by simp)
  have back : ∀ {E : List Ent} {w : World}, Wd (fps [Ent.box p2 [.slice ga gn gc, .slice fa fn fc] 25]) (killW (fps [Ent.box p2 [.slice ga gn gc, .slice fa fn fc] 25]) w1) E w → Wd NoS w0 (E ++ [(⟨sp, fun w => SlAt w (.slice sa rl.length sc) 1 (rl.map fun x : Nat => (x : Int)) IntV⟩ : Ent), (⟨rp, fun w => SlAt w (.slice ra bn rc) 1 (deepL X.blocks) IntV⟩ : Ent)]) w := fun hw => hw1.comp hw.unkill
  have hkp : ∀ {E : List Ent} {w : World}, Wd (fps [Ent.box p2 [.slice ga gn gc, .slice fa fn fc] 25]) (killW (fps [Ent.box p2 [.slice ga gn gc, .slice fa fn fc] 25]) w1) E w → ∀ p v, (killW (fps [Ent.box p2 [.slice ga gn gc, .slice fa fn fc] 25]) w1).cell? p = some v → w.cell? p = some v := fun hw => hw.killKeep
  have hold : ∀ {b o : Nat} {v : Value} {l : List Value}, CellsAt (killW (fps [Ent.box p2 [.slice ga gn gc, .slice fa fn fc] 25]) w1) b o (v :: l) → OldIs (fps [Ent.box p2 [.slice ga gn gc, .slice fa fn fc] 25]) b := fun hc => killOldIs hc (by simp)
  have hbw := hbv0.keep keeps_block hw1.killOld
  have hcw := hcs.keep hw1.killOld
  generalize killW (fps [Ent.box p2 [.slice ga gn gc, .slice fa fn fc] 25]) w1 = wk at *
  generalize fps [Ent.box p2 [.slice ga gn gc, .slice fa fn fc] 25] = SS at *
  have hciw : CellsIs wk fb (fo + i * 4) _ := ⟨hcw⟩
  have holf : OldIs SS fb := hold hcw
  obtain ⟨_, _, _, bb, bo, hba, hbel⟩ := hbw.at
  refine g_loop (fun (b : Nat) => b ≤ bn) (fun b => [(10, .int .i64 b), (7, .bool (decide (tameL X.blocks))), (5, .slice ra bn rc), (9, .slice sa rl.length sc), (2, .pointer (some ⟨p2, 0, none⟩)), (1, .int .i64 i)]) (fun _ => [Ent.box p2 [.slice ga gn gc, .slice fa fn fc] 25]) (fun b => bn - b) 0 (Nat.zero_le _) (g_done (by repeat (first | exact trivial | refine ⟨rfl, ?_⟩)) (List.Sublist.refl _)) fun b hb => ?_
  repeat (first | refine g_op rfl ?_ | refine g_then ?_ | refine g_nil ?_ | refine g_region ?_ | refine g_seq ?_)
  refine g_cond (fun h1 => ?_) (fun h1 => ?_)
  · have hlt : b < bn := by simpa using h1
    have hlb : LtIs b bn := ⟨hlt⟩
    obtain ⟨B, hB⟩ : ∃ B, X.blocks[b]? = some B := ⟨_, List.getElem?_eq_getElem (by omega)⟩
    have hadb : AddrIs ba bb bo := ⟨hba (ne_of_get hB)⟩
    obtain ⟨csB, hcsB, pv, lv, tv, rfl, _, _, _, _, htv⟩ := hbel b B hB
    have htv0 := htv
    obtain ⟨ta, tn, tc, _, _, rfl, _⟩ := htv0
    have hciB : CellsIs wk bb (bo + b * 6) _ := ⟨hcsB⟩
    have holB : OldIs SS bb := hold hcsB
    have htoOf := toOf_get hB
    repeat (first | refine g_op rfl ?_ | refine g_then ?_ | refine g_region ?_ | refine g_seq ?_ | refine g_block ?_ | refine g_skip ?_)
    refine g_callV rfl (fun w hw => has_c _ B.to b w (SlAt.mono (V := IntV) (w := wk) (w' := w) (fun _ _ h => h) (hkp hw) htv)) ?_
    rw [show decide ((b : Int) ∈ B.to) = decide (RoundTo X.blocks 0 b) by
      rw [decide_eq_decide]
      unfold RoundTo Edge
      rw [htoOf]
      simp]
    repeat (first | refine g_op rfl ?_ | refine g_then ?_ | refine g_nil ?_ | refine g_region ?_ | refine g_seq ?_ | refine g_block ?_)
    refine g_loop (fun (j : Nat) => j ≤ bn) (fun j => [(12, .int .i64 j), (11, .bool (decide (RoundTo X.blocks j b))), (10, .int .i64 b), (7, .bool (decide (tameL X.blocks))), (5, .slice ra bn rc), (9, .slice sa rl.length sc), (2, .pointer (some ⟨p2, 0, none⟩)), (1, .int .i64 i)]) (fun _ => [Ent.box p2 [.slice ga gn gc, .slice fa fn fc] 25]) (fun j => bn - j) 0 (Nat.zero_le _) (g_done (by repeat (first | exact trivial | refine ⟨rfl, ?_⟩)) (List.Sublist.refl _)) fun j hj => ?_
    have hrs : decide (RoundTo X.blocks (j + 1) b) = (decide (RoundTo X.blocks j b) || decide (j ≠ b ∧ Mut X.blocks b j)) := by
      rw [decide_eq_decide.2 roundTo_succ, Bool.decide_or]
    repeat (first | refine g_op rfl ?_ | refine g_then ?_ | refine g_nil ?_ | refine g_region ?_ | refine g_seq ?_)
    refine g_cond (fun h2 => ?_) (fun h2 => ?_)
    · have hjl : j < bn := by simpa using h2
      have hpm := part_iff (bl := X.blocks) (a := j) (b := b) (by omega) (by omega)
      generalize decide (RoundTo X.blocks j b) = d at hrs ⊢
      refine g_fix (L' := [(12, .int .i64 j), (11, .bool d), (10, .int .i64 b), (7, .bool (decide (tameL X.blocks))), (5, .slice ra bn rc), (9, .slice sa rl.length sc), (2, .pointer (some ⟨p2, 0, none⟩)), (1, .int .i64 i)]) (by repeat (first | exact trivial | refine ⟨rfl, ?_⟩)) (List.Sublist.refl _) ?_
      repeat (first | refine g_then ?_ | refine g_seq ?_ | refine g_block ?_ | refine g_skip ?_)
      refine g_drawH [Ent.box p2 [.slice ga gn gc, .slice fa fn fc] 25] mixed (List.Sublist.refl _) ?_
      cases d
      · by_cases hjb : j = b
        · skip
          refine h_take 0 rfl (by decide +kernel) (List.Sublist.refl _) ?_
          refine h_take 1 rfl (by decide +kernel) (List.Sublist.refl _) ?_
          refine h_takeG 2 rfl (by decide +kernel) (List.Sublist.refl _) ?_
          refine h_takeG 3 rfl (by decide +kernel) (List.Sublist.refl _) ?_
          refine h_takeG 4 rfl (by decide +kernel) (List.Sublist.refl _) ?_
          rw [show (!decide ((j : Int) = (b : Int))) = false by simp; omega]
          refine h_takeG 5 rfl (by decide +kernel) (List.Sublist.refl _) ?_
          refine h_takeP 6 rfl (by decide +kernel) (List.Sublist.refl _) ?_
          refine h_takeP 7 rfl (by decide +kernel) (List.Sublist.refl _) ?_
          refine h_takeP 8 rfl (by decide +kernel) (List.Sublist.refl _) ?_
          refine h_takeP 9 rfl (by decide +kernel) (List.Sublist.refl _) ?_
          refine h_takeP 10 rfl (by decide +kernel) (List.Sublist.refl _) ?_
          refine h_takeP 11 rfl (by decide +kernel) (List.Sublist.refl _) ?_
          refine h_takeP 12 rfl (by decide +kernel) (List.Sublist.refl _) ?_
          refine h_takeP 13 rfl (by decide +kernel) (List.Sublist.refl _) ?_
          refine h_takeP 14 rfl (by decide +kernel) (List.Sublist.refl _) ?_
          refine h_takeP 15 rfl (by decide +kernel) (List.Sublist.refl _) ?_
          refine h_takeP 16 rfl (by decide +kernel) (List.Sublist.refl _) ?_
          refine h_takeP 17 rfl (by decide +kernel) (List.Sublist.refl _) ?_
          refine h_takeP 18 rfl (by decide +kernel) (List.Sublist.refl _) ?_
          refine h_takeP 19 rfl (by decide +kernel) (List.Sublist.refl _) ?_
          refine h_takeP 20 rfl (by decide +kernel) (List.Sublist.refl _) ?_
          refine h_takeG 21 rfl (by decide +kernel) (List.Sublist.refl _) ?_
          refine h_take 22 rfl (by decide +kernel) (List.Sublist.refl _) ?_
          refine g_fix (L' := [(117, .bool false), (12, .int .i64 j), (10, .int .i64 b), (7, .bool (decide (tameL X.blocks))), (5, .slice ra bn rc), (9, .slice sa rl.length sc), (2, .pointer (some ⟨p2, 0, none⟩)), (1, .int .i64 i)]) (by repeat (first | exact trivial | refine ⟨rfl, ?_⟩)) (List.Sublist.refl _) ?_
          refine h_take 23 rfl (by decide +kernel) (List.Sublist.refl _) ?_
          refine h_end (by decide +kernel) ?_
          repeat (first | refine g_op rfl ?_ | refine g_then ?_ | refine g_nil ?_ | refine g_region ?_ | refine g_opS rfl ?_ | refine g_inBlock ?_ | refine g_add rfl (by omega) (by omega) ?_)
          refine g_fix (L' := [(12, .int .i64 ((j : Int) + 1)), (11, .bool (decide (RoundTo X.blocks (j + 1) b))), (10, .int .i64 b), (7, .bool (decide (tameL X.blocks))), (5, .slice ra bn rc), (9, .slice sa rl.length sc), (2, .pointer (some ⟨p2, 0, none⟩)), (1, .int .i64 i)]) (by rw [hrs, decide_eq_false (fun k : j ≠ b ∧ Mut X.blocks b j => k.1 hjb)]; exact (by repeat (first | exact trivial | refine ⟨rfl, ?_⟩))) (List.Sublist.refl _) ?_
          exact g_next (j + 1) hjl (by omega) (by repeat (first | exact trivial | refine ⟨rfl, ?_⟩)) (List.Sublist.refl _)
        · skip
          refine h_take 0 rfl (by decide +kernel) (List.Sublist.refl _) ?_
          refine h_take 1 rfl (by decide +kernel) (List.Sublist.refl _) ?_
          refine h_takeG 2 rfl (by decide +kernel) (List.Sublist.refl _) ?_
          refine h_takeG 3 rfl (by decide +kernel) (List.Sublist.refl _) ?_
          refine h_takeG 4 rfl (by decide +kernel) (List.Sublist.refl _) ?_
          rw [show (!decide ((j : Int) = (b : Int))) = true by simp; omega]
          refine h_takeG 5 rfl (by decide +kernel) (List.Sublist.refl _) ?_
          refine h_takeG 6 rfl (by decide +kernel) (List.Sublist.refl _) ?_
          refine h_takeG 7 rfl (by decide +kernel) (List.Sublist.refl _) ?_
          refine h_takeG 8 rfl (by decide +kernel) (List.Sublist.refl _) ?_
          refine h_takeG 9 rfl (by decide +kernel) (List.Sublist.refl _) ?_
          refine h_takeG 10 rfl (by decide +kernel) (List.Sublist.refl _) ?_
          refine h_takeG 11 rfl (by decide +kernel) (List.Sublist.refl _) ?_
          refine h_takeG 13 rfl (by decide +kernel) (List.Sublist.refl _) ?_
          refine h_takeG 14 rfl (by decide +kernel) (List.Sublist.refl _) ?_
          refine h_takeG 15 rfl (by decide +kernel) (List.Sublist.refl _) ?_
          refine h_takeG 16 rfl (by decide +kernel) (List.Sublist.refl _) ?_
          refine h_takeG 17 rfl (by decide +kernel) (List.Sublist.refl _) ?_
          refine h_takeG 18 rfl (by decide +kernel) (List.Sublist.refl _) ?_
          refine h_callVG 12 rfl (by decide +kernel) (List.Sublist.refl _) (fun w hw => part_c _ _ _ X.blocks _ ⟨_, _, _, rfl⟩ j w (hbv0.keep keeps_block (back hw).chg) (by omega) hok (by omega)) ?_
          refine h_callVG 19 rfl (by decide +kernel) (List.Sublist.refl _) (fun w hw => part_c _ _ _ X.blocks _ ⟨_, _, _, rfl⟩ b w (hbv0.keep keeps_block (back hw).chg) (by omega) hok (by omega)) ?_
          refine h_takeG 20 rfl (by decide +kernel) (List.Sublist.refl _) ?_
          rw [show decide ((partOf X.blocks j : Int) = (partOf X.blocks b : Int)) = decide (j ≠ b ∧ Mut X.blocks b j) by
            rw [decide_eq_decide, Int.natCast_inj, hpm]
            exact ⟨fun h => ⟨hjb, h.symm⟩, fun h => h.2.symm⟩]
          generalize decide (j ≠ b ∧ Mut X.blocks b j) = d2 at hrs ⊢
          refine h_takeG 21 rfl (by decide +kernel) (List.Sublist.refl _) ?_
          refine h_take 22 rfl (by decide +kernel) (List.Sublist.refl _) ?_
          refine g_fix (L' := [(117, .bool d2), (12, .int .i64 j), (10, .int .i64 b), (7, .bool (decide (tameL X.blocks))), (5, .slice ra bn rc), (9, .slice sa rl.length sc), (2, .pointer (some ⟨p2, 0, none⟩)), (1, .int .i64 i)]) (by repeat (first | exact trivial | refine ⟨rfl, ?_⟩)) (List.Sublist.refl _) ?_
          refine h_take 23 rfl (by decide +kernel) (List.Sublist.refl _) ?_
          refine h_end (by decide +kernel) ?_
          repeat (first | refine g_op rfl ?_ | refine g_then ?_ | refine g_nil ?_ | refine g_region ?_ | refine g_opS rfl ?_ | refine g_inBlock ?_ | refine g_add rfl (by omega) (by omega) ?_)
          refine g_fix (L' := [(12, .int .i64 ((j : Int) + 1)), (11, .bool (decide (RoundTo X.blocks (j + 1) b))), (10, .int .i64 b), (7, .bool (decide (tameL X.blocks))), (5, .slice ra bn rc), (9, .slice sa rl.length sc), (2, .pointer (some ⟨p2, 0, none⟩)), (1, .int .i64 i)]) (by rw [hrs, Bool.false_or]; exact (by repeat (first | exact trivial | refine ⟨rfl, ?_⟩))) (List.Sublist.refl _) ?_
          exact g_next (j + 1) hjl (by omega) (by repeat (first | exact trivial | refine ⟨rfl, ?_⟩)) (List.Sublist.refl _)
      · skip
        refine h_take 0 rfl (by decide +kernel) (List.Sublist.refl _) ?_
        refine h_take 1 rfl (by decide +kernel) (List.Sublist.refl _) ?_
        refine h_takeP 2 rfl (by decide +kernel) (List.Sublist.refl _) ?_
        refine h_takeP 3 rfl (by decide +kernel) (List.Sublist.refl _) ?_
        refine h_takeP 4 rfl (by decide +kernel) (List.Sublist.refl _) ?_
        refine h_takeP 5 rfl (by decide +kernel) (List.Sublist.refl _) ?_
        refine h_takeU 6 rfl (by decide +kernel) (List.Sublist.refl _) ?_
        refine h_takeU 7 rfl (by decide +kernel) (List.Sublist.refl _) ?_
        refine h_takeU 8 rfl (by decide +kernel) (List.Sublist.refl _) ?_
        refine h_takeU 9 rfl (by decide +kernel) (List.Sublist.refl _) ?_
        refine h_takeU 10 rfl (by decide +kernel) (List.Sublist.refl _) ?_
        refine h_takeU 11 rfl (by decide +kernel) (List.Sublist.refl _) ?_
        refine h_takeU 12 rfl (by decide +kernel) (List.Sublist.refl _) ?_
        refine h_takeU 13 rfl (by decide +kernel) (List.Sublist.refl _) ?_
        refine h_takeU 14 rfl (by decide +kernel) (List.Sublist.refl _) ?_
        refine h_takeU 15 rfl (by decide +kernel) (List.Sublist.refl _) ?_
        refine h_takeU 16 rfl (by decide +kernel) (List.Sublist.refl _) ?_
        refine h_takeU 17 rfl (by decide +kernel) (List.Sublist.refl _) ?_
        refine h_takeU 18 rfl (by decide +kernel) (List.Sublist.refl _) ?_
        refine h_takeU 19 rfl (by decide +kernel) (List.Sublist.refl _) ?_
        refine h_takeU 20 rfl (by decide +kernel) (List.Sublist.refl _) ?_
        refine h_takeP 21 rfl (by decide +kernel) (List.Sublist.refl _) ?_
        refine h_take 22 rfl (by decide +kernel) (List.Sublist.refl _) ?_
        refine g_fix (L' := [(117, .bool true), (12, .int .i64 j), (10, .int .i64 b), (7, .bool (decide (tameL X.blocks))), (5, .slice ra bn rc), (9, .slice sa rl.length sc), (2, .pointer (some ⟨p2, 0, none⟩)), (1, .int .i64 i)]) (by repeat (first | exact trivial | refine ⟨rfl, ?_⟩)) (List.Sublist.refl _) ?_
        refine h_take 23 rfl (by decide +kernel) (List.Sublist.refl _) ?_
        refine h_end (by decide +kernel) ?_
        repeat (first | refine g_op rfl ?_ | refine g_then ?_ | refine g_nil ?_ | refine g_region ?_ | refine g_opS rfl ?_ | refine g_inBlock ?_ | refine g_add rfl (by omega) (by omega) ?_)
        refine g_fix (L' := [(12, .int .i64 ((j : Int) + 1)), (11, .bool (decide (RoundTo X.blocks (j + 1) b))), (10, .int .i64 b), (7, .bool (decide (tameL X.blocks))), (5, .slice ra bn rc), (9, .slice sa rl.length sc), (2, .pointer (some ⟨p2, 0, none⟩)), (1, .int .i64 i)]) (by rw [hrs, Bool.true_or]; exact (by repeat (first | exact trivial | refine ⟨rfl, ?_⟩))) (List.Sublist.refl _) ?_
        exact g_next (j + 1) hjl (by omega) (by repeat (first | exact trivial | refine ⟨rfl, ?_⟩)) (List.Sublist.refl _)
    · have hge : j = bn := by have := h2; simp at this; omega
      have hro : RoundTo X.blocks bn b ↔ (Edge X.blocks b b ∨ ∃ j, j < X.blocks.length ∧ j ≠ b ∧ Mut X.blocks b j) := by rw [hbn]; exact Iff.rfl
      have hin : decide ((b : Int) ∈ rl.map fun x : Nat => (x : Int)) = decide (Rch X.blocks (-1) 0 b) := by
        rw [decide_eq_decide, mem_ints, hR.2.2]
        exact ⟨fun h => h.2, fun h => ⟨by omega, h⟩⟩
      obtain ⟨rd, hrd⟩ : ∃ rd : Bool, rd = decide (Round X.blocks b) := ⟨_, rfl⟩
      have hd0 : rd = false → deepTo X.blocks X.blocks.length b = 0 := fun e => deep_round hok hpos (by rw [hrd] at e; simpa using e)
      have hd1 : rd = true → tameL X.blocks → deepTo X.blocks X.blocks.length b ≠ 0 := fun e ht => round_deep hok hpos (tameL_tame hok hpos ht) (by rw [hrd] at e; simpa using e)
      have hdle := deepTo_le X.blocks X.blocks.length b
      have hel : (deepL X.blocks)[b]? = some (deepTo X.blocks X.blocks.length b : Int) := by unfold deepL; rw [List.getElem?_map, List.getElem?_range (by omega)]; rfl
      obtain ⟨db, d0, hadd, hcid, hold2⟩ := rowKnown hdk hold hel
      generalize deepTo X.blocks X.blocks.length b = dv at *
      generalize htl : decide (tameL X.blocks) = tl at *
      rw [hge]
      generalize hre : decide (RoundTo X.blocks bn b) = re
      repeat (first | refine g_op rfl ?_ | refine g_then ?_ | refine g_region ?_ | refine g_seq ?_ | refine g_exit ?_ | refine g_thenExit ?_ | refine g_exitHere ?_)
      cases re
      · have hrf : rd = false := by
          rw [hrd]
          refine decide_eq_false fun h => ?_
          rw [decide_eq_false_iff_not, hro] at hre
          exact hre h.2
        repeat (first | refine g_op rfl ?_ | refine g_then ?_ | refine g_nil ?_ | refine g_region ?_ | refine g_seq ?_ | refine g_opS rfl ?_ | refine g_open ?_ | refine g_pass rfl ?_)
        rw [hd0 hrf, show (!decide (((0 : Nat) : Int) = 0)) = false from rfl]
        repeat (first | refine g_op rfl ?_ | refine g_open ?_)
        cases tl
        · repeat (first | refine g_op rfl ?_ | refine g_then ?_ | refine g_nil ?_ | refine g_region ?_ | refine g_opS rfl ?_ | refine g_open ?_ | refine g_pass rfl ?_ | refine g_inBlock ?_ | refine g_skip ?_ | refine g_condF ?_ | refine g_add rfl (by omega) (by omega) ?_)
          exact g_next (b + 1) hlt (by omega) (by repeat (first | exact trivial | refine ⟨rfl, ?_⟩)) (List.Sublist.refl _)
        · repeat (first | refine g_op rfl ?_ | refine g_then ?_ | refine g_nil ?_ | refine g_region ?_ | refine g_opS rfl ?_ | refine g_open ?_ | refine g_pass rfl ?_ | refine g_inBlock ?_ | refine g_skip ?_ | refine g_condF ?_ | refine g_add rfl (by omega) (by omega) ?_)
          exact g_next (b + 1) hlt (by omega) (by repeat (first | exact trivial | refine ⟨rfl, ?_⟩)) (List.Sublist.refl _)
      · rw [decide_eq_true_eq, hro] at hre
        repeat (first | refine g_op rfl ?_ | refine g_open ?_)
        refine g_callV rfl (fun w hw => has_c _ (rl.map fun x : Nat => (x : Int)) b w (SlAt.mono (V := IntV) (w := wk) (w' := w) (fun _ _ h => h) (hkp hw) hrk)) ?_
        rw [hin, show decide (Rch X.blocks (-1) 0 b) = rd by rw [hrd, decide_eq_decide]; exact ⟨fun h => ⟨h, hre⟩, fun h => h.1⟩]
        clear hrd
        repeat (first | refine g_op rfl ?_ | refine g_then ?_ | refine g_nil ?_ | refine g_region ?_ | refine g_seq ?_ | refine g_opS rfl ?_)
        cases rd
        · rw [show (!false) = true from rfl]
          repeat (first | refine g_op rfl ?_ | refine g_open ?_)
          rw [hd0 rfl, show (!decide (((0 : Nat) : Int) = 0)) = false from rfl]
          repeat (first | refine g_op rfl ?_ | refine g_open ?_)
          cases tl
          · repeat (first | refine g_op rfl ?_ | refine g_then ?_ | refine g_nil ?_ | refine g_region ?_ | refine g_opS rfl ?_ | refine g_open ?_ | refine g_pass rfl ?_ | refine g_inBlock ?_ | refine g_skip ?_ | refine g_condF ?_ | refine g_add rfl (by omega) (by omega) ?_)
            exact g_next (b + 1) hlt (by omega) (by repeat (first | exact trivial | refine ⟨rfl, ?_⟩)) (List.Sublist.refl _)
          · repeat (first | refine g_op rfl ?_ | refine g_then ?_ | refine g_nil ?_ | refine g_region ?_ | refine g_opS rfl ?_ | refine g_open ?_ | refine g_pass rfl ?_ | refine g_inBlock ?_ | refine g_skip ?_ | refine g_condF ?_ | refine g_add rfl (by omega) (by omega) ?_)
            exact g_next (b + 1) hlt (by omega) (by repeat (first | exact trivial | refine ⟨rfl, ?_⟩)) (List.Sublist.refl _)
        · rw [show (!true) = false from rfl]
          repeat (first | refine g_op rfl ?_ | refine g_open ?_ | refine g_pass rfl ?_)
          cases tl
          · repeat (first | refine g_op rfl ?_ | refine g_then ?_ | refine g_nil ?_ | refine g_region ?_ | refine g_opS rfl ?_ | refine g_open ?_ | refine g_pass rfl ?_ | refine g_inBlock ?_ | refine g_skip ?_ | refine g_condF ?_ | refine g_add rfl (by omega) (by omega) ?_)
            exact g_next (b + 1) hlt (by omega) (by repeat (first | exact trivial | refine ⟨rfl, ?_⟩)) (List.Sublist.refl _)
          · have hne := hd1 rfl (by simpa using htl)
            repeat (first | refine g_op rfl ?_ | refine g_then ?_ | refine g_nil ?_ | refine g_open ?_)
            rw [show decide ((dv : Int) = 0) = false by simp; omega]
            repeat (first | refine g_op rfl ?_ | refine g_then ?_ | refine g_nil ?_ | refine g_region ?_ | refine g_opS rfl ?_ | refine g_inBlock ?_ | refine g_skip ?_ | refine g_condF ?_ | refine g_add rfl (by omega) (by omega) ?_)
            exact g_next (b + 1) hlt (by omega) (by repeat (first | exact trivial | refine ⟨rfl, ?_⟩)) (List.Sublist.refl _)
  · repeat (first | refine g_op rfl ?_ | refine g_then ?_ | refine g_nil ?_ | refine g_region ?_ | refine g_seq ?_ | refine g_exit ?_ | refine g_thenExit ?_ | refine g_exitHere ?_ | refine g_ret ?_)
    exact g_ret1 rfl fun w hw => ⟨rfl, (back hw).chg⟩
end Go.Proofs.YtoahickmkkcneaaDoor
