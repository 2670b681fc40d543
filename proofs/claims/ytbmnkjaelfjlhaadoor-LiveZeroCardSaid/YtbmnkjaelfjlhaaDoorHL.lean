/- Texts joined: ZeroL. -/
import Derived.Test.YtbmnkjaelfjlhaaDoorHG
import Derived.Test.YtbmnkjaelfjlhaaDoorHJ
import Derived.Test.YtbmnkjaelfjlhaaDoorHK
/- The law LiveZero, walked: registers that nobody wrote are 0. -/
namespace Go.Proofs.YtbmnkjaelfjlhaaDoor
open Go Go.RowKit
attribute [local irreducible] wpListIn Code.wpIn Exit.then Exit.inBlock bodyPost wpQuiet wpAnyIn wpAnyH bodyPostM oneH
set_option maxHeartbeats 8000000

/-- what lies beside is given back -/
theorem g_unhold {N : Nat} {ds : List Deferred} {S S1 : Nat → Prop} {w0 w1 : World} {L : List (Nat × Value)} {H H2 : List Ent} {p : Act → World → Prop} (back : ∀ {w : World}, Wd S1 w1 H w → Wd S w0 (H ++ H2) w) (k : G N ds S w0 L (H ++ H2) p) : G N ds S1 w1 L H p := fun a w hS => k a w ⟨hS.fr, back hS.wd⟩
/-- the registers that are no parameters -/
def zerosOf (X : LFunc) (l : List Nat) : List Nat := l.filter fun z => decide (X.params ≤ (z : Int))
theorem zerosOf_succ {X : LFunc} {l : List Nat} {i z : Nat} (h : l[i]? = some z) : zerosOf X (l.take (i + 1)) = zerosOf X (l.take i) ++ (if X.params ≤ (z : Int) then [z] else []) := by
  unfold zerosOf
  rw [List.take_add_one, h, List.filter_append]
  congr 1
  by_cases e : X.params ≤ (z : Int) <;> simp [e]
def zRow (z : Nat) : IRow := ⟨zIns z, none, 0⟩
theorem modify_at {α : Type} {f g : α → α} {l : List α} {k : Nat} {x : α} (h : l[k]? = some x) (he : f x = g x) : l.modify k f = l.modify k g := by
  apply List.ext_getElem?
  intro j
  rw [List.getElem?_modify, List.getElem?_modify]
  by_cases e : k = j
  · subst e
    simp [h, he]
  · simp [e]
theorem list_size {bl : List LBlock} {B : LBlock} (hB : B ∈ bl) : (B.list.length : Int) ≤ sizeOfBs bl := by
  unfold sizeOfBs
  have hnn : ∀ m : List LBlock, 0 ≤ (m.map fun b => ((b.phis.length + b.list.length : Nat) : Int)).sum := fun m => by
    induction m with
    | nil => simp
    | cons D m ih => simp only [List.map_cons, List.sum_cons]; omega
  induction bl with
  | nil => cases hB
  | cons C l ih =>
    simp only [List.map_cons, List.sum_cons]
    rcases List.mem_cons.1 hB with rfl | hB
    · have := hnn l; omega
    · have := ih hB; omega
theorem rowC_one (y : IRow) : ∀ u ∈ rowC y, u.oneCell' = true := fun u hu => by
  simp only [rowC, List.mem_cons, List.not_mem_nil, or_false] at hu
  rcases hu with rfl | rfl | rfl | rfl | rfl | rfl | rfl | rfl <;> rfl
theorem zeroLaw_c (u : LUnit) (k : Int) (hk : inI k) (inp : List Int) (fuel : Int) (_hfu : inI fuel) (g fs iv : Value) (w0 : World) (hg : SlAt w0 g 3 u.globals GlobalV) (hf : SlAt w0 fs 4 u.funcs FuncV) (hin : SlAt w0 iv 1 inp IntV) (hways : CellsAt w0 0 0 waysC) :
    RetV Tryd.prog 10 [.agg #[g, fs], .int .i64 k, iv, .int .i64 fuel] w0 (.bool true) := by
  classical
  have hg0 := hg
  have hf0 := hf
  have hin0 := hin
  obtain ⟨ga, gn, gc, gb, go, rfl, _⟩ := hg
  obtain ⟨fa, fn, fc, fb, fo, rfl, hfn, hfnc, hfnb, hfc, hfa, hfel⟩ := hf
  obtain ⟨ia, il, ic, _, _, rfl, _⟩ := hin
  refine ret_enter Tryd.func10 rfl Tryd.ntmps10 rfl (Wd.nil NoS w0) ?_
  repeat (first | refine g_op rfl ?_ | refine g_then ?_ | refine g_nil ?_ | refine g_region ?_ | refine g_seq ?_ | refine g_opS rfl ?_ | refine g_open ?_ | refine g_pass rfl ?_ | refine g_store ?_ | refine g_box rfl fun _ _ => ?_ | refine g_alloc rfl fun _ _ => ?_ | refine g_allocS rfl fun _ _ => ?_ | refine g_storeAgg ?_ | refine g_inBlock ?_ | refine g_block ?_ | refine g_skip ?_ | refine g_condT ?_ | refine g_condF ?_ | refine g_add rfl (by omega) (by omega) ?_ | refine g_sub rfl (by omega) (by omega) ?_ | refine g_exit ?_ | refine g_thenExit ?_ | refine g_exitHere ?_ | refine g_exitOn rfl ?_ | refine g_ret ?_ | refine g_thenRet ?_ | refine g_blockRet ?_ | refine g_passS rfl ?_ | refine g_pass0 ?_ | refine g_passU rfl ?_ | refine g_passUS rfl ?_ | refine g_storeV ?_ | refine g_build1 rfl rfl fun _ _ => ?_ | refine g_buildN rfl rfl fun _ _ => ?_ | refine g_make rfl (by omega) (by omega) fun _ _ => ?_)
  rename_i p4 _
  refine g_callE (val := fun b : Bool => .bool b) (E := fun _ => []) (φ := fun b => b = false → slim u) rfl (fun w hw => heavyS_c u _ _ w (hf0.keep keeps_func hw.chg) ⟨_, _, _, rfl⟩) fun b hb => ?_
  simp only [List.nil_append]
  cases b
  case true =>
    repeat (first | refine g_op rfl ?_ | refine g_then ?_ | refine g_nil ?_ | refine g_region ?_ | refine g_seq ?_ | refine g_opS rfl ?_ | refine g_open ?_ | refine g_pass rfl ?_ | refine g_store ?_ | refine g_box rfl fun _ _ => ?_ | refine g_alloc rfl fun _ _ => ?_ | refine g_allocS rfl fun _ _ => ?_ | refine g_storeAgg ?_ | refine g_inBlock ?_ | refine g_block ?_ | refine g_skip ?_ | refine g_condT ?_ | refine g_condF ?_ | refine g_add rfl (by omega) (by omega) ?_ | refine g_sub rfl (by omega) (by omega) ?_ | refine g_exit ?_ | refine g_thenExit ?_ | refine g_exitHere ?_ | refine g_exitOn rfl ?_ | refine g_ret ?_ | refine g_thenRet ?_ | refine g_blockRet ?_ | refine g_passS rfl ?_ | refine g_pass0 ?_ | refine g_passU rfl ?_ | refine g_passUS rfl ?_ | refine g_storeV ?_ | refine g_build1 rfl rfl fun _ _ => ?_ | refine g_buildN rfl rfl fun _ _ => ?_ | refine g_make rfl (by omega) (by omega) fun _ _ => ?_)
    exact g_retV rfl rfl
  have hsl := hb rfl
  have hl := hsl.light
  repeat (first | refine g_op rfl ?_ | refine g_then ?_ | refine g_nil ?_ | refine g_region ?_ | refine g_seq ?_ | refine g_opS rfl ?_ | refine g_open ?_ | refine g_pass rfl ?_ | refine g_store ?_ | refine g_box rfl fun _ _ => ?_ | refine g_alloc rfl fun _ _ => ?_ | refine g_allocS rfl fun _ _ => ?_ | refine g_storeAgg ?_ | refine g_inBlock ?_ | refine g_block ?_ | refine g_skip ?_ | refine g_condT ?_ | refine g_condF ?_ | refine g_add rfl (by omega) (by omega) ?_ | refine g_sub rfl (by omega) (by omega) ?_ | refine g_exit ?_ | refine g_thenExit ?_ | refine g_exitHere ?_ | refine g_exitOn rfl ?_ | refine g_ret ?_ | refine g_thenRet ?_ | refine g_blockRet ?_ | refine g_passS rfl ?_ | refine g_pass0 ?_ | refine g_passU rfl ?_ | refine g_passUS rfl ?_ | refine g_storeV ?_ | refine g_build1 rfl rfl fun _ _ => ?_ | refine g_buildN rfl rfl fun _ _ => ?_ | refine g_make rfl (by omega) (by omega) fun _ _ => ?_)
  by_cases hbad : (askedL u k).1 ≠ 0
  · refine g_callV rfl (fun w hw => in_bad u hl k hk hbad _ _ w (hg0.keep keeps_global hw.chg) (hf0.keep keeps_func hw.chg) (hways.keep hw.chg)) ?_
    repeat (first | refine g_op rfl ?_ | refine g_then ?_ | refine g_nil ?_ | refine g_region ?_ | refine g_seq ?_ | refine g_opS rfl ?_ | refine g_open ?_ | refine g_pass rfl ?_ | refine g_store ?_ | refine g_box rfl fun _ _ => ?_ | refine g_alloc rfl fun _ _ => ?_ | refine g_allocS rfl fun _ _ => ?_ | refine g_storeAgg ?_ | refine g_inBlock ?_ | refine g_block ?_ | refine g_skip ?_ | refine g_condT ?_ | refine g_condF ?_ | refine g_add rfl (by omega) (by omega) ?_ | refine g_sub rfl (by omega) (by omega) ?_ | refine g_exit ?_ | refine g_thenExit ?_ | refine g_exitHere ?_ | refine g_exitOn rfl ?_ | refine g_ret ?_ | refine g_thenRet ?_ | refine g_blockRet ?_ | refine g_passS rfl ?_ | refine g_pass0 ?_ | refine g_passU rfl ?_ | refine g_passUS rfl ?_ | refine g_storeV ?_ | refine g_build1 rfl rfl fun _ _ => ?_ | refine g_buildN rfl rfl fun _ _ => ?_ | refine g_make rfl (by omega) (by omega) fun _ _ => ?_)
    refine g_cond (fun h1 => ?_) (fun h1 => ?_)
    · repeat (first | refine g_op rfl ?_ | refine g_then ?_ | refine g_nil ?_ | refine g_region ?_ | refine g_seq ?_ | refine g_opS rfl ?_ | refine g_open ?_ | refine g_pass rfl ?_ | refine g_store ?_ | refine g_box rfl fun _ _ => ?_ | refine g_alloc rfl fun _ _ => ?_ | refine g_allocS rfl fun _ _ => ?_ | refine g_storeAgg ?_ | refine g_inBlock ?_ | refine g_block ?_ | refine g_skip ?_ | refine g_condT ?_ | refine g_condF ?_ | refine g_add rfl (by omega) (by omega) ?_ | refine g_sub rfl (by omega) (by omega) ?_ | refine g_exit ?_ | refine g_thenExit ?_ | refine g_exitHere ?_ | refine g_exitOn rfl ?_ | refine g_ret ?_ | refine g_thenRet ?_ | refine g_blockRet ?_ | refine g_passS rfl ?_ | refine g_pass0 ?_ | refine g_passU rfl ?_ | refine g_passUS rfl ?_ | refine g_storeV ?_ | refine g_build1 rfl rfl fun _ _ => ?_ | refine g_buildN rfl rfl fun _ _ => ?_ | refine g_make rfl (by omega) (by omega) fun _ _ => ?_)
      exact g_retV rfl rfl
    · exact absurd h1 (by simp [hbad])
  have hgood : (askedL u k).1 = 0 := by simpa using hbad
  obtain ⟨hch, has, i, X, rfl, hX, hok⟩ := asked_ok hgood
  have hpos := check_pos hch hX
  have hil : i < fn := by rw [hfn]; exact (List.getElem?_eq_some_iff.1 hX).1
  have had : AddrIs fa fb fo := ⟨hfa (ne_of_get hX)⟩
  have hli : LtIs i fn := ⟨hil⟩
  obtain ⟨fcs, hfcs, bv, rfl, hpi, hri, hbv⟩ := hfel i X hX
  have hci : CellsIs w0 fb (fo + i * 4) _ := ⟨hfcs⟩
  obtain ⟨ba, bn, bc, _, _, rfl, hbn, _⟩ := hbv
  obtain ⟨R, hXR, hR, hFO⟩ := check_func hch hX
  have hlim := check_lim hl hch X (List.mem_of_getElem? hX)
  refine g_callK (s := 1) (l := inG X.blocks X.regs.toNat) (V := RowV) (mk := fun v => .tuple #[v, .agg #[.int .i64 0, .int .i64 0]]) rfl (fun w hw => inKZ u hl i hgood X hX hch (by omega) _ _ w (hg0.keep keeps_global hw.chg) (hf0.keep keeps_func hw.chg) (hways.keep hw.chg)) fun na nc np => ?_
  rw [inG_lenZ, ← hbn]
  repeat (first | refine g_op rfl ?_ | refine g_then ?_ | refine g_nil ?_ | refine g_region ?_ | refine g_seq ?_ | refine g_opS rfl ?_ | refine g_open ?_ | refine g_pass rfl ?_ | refine g_store ?_ | refine g_box rfl fun _ _ => ?_ | refine g_alloc rfl fun _ _ => ?_ | refine g_allocS rfl fun _ _ => ?_ | refine g_storeAgg ?_ | refine g_inBlock ?_ | refine g_block ?_ | refine g_skip ?_ | refine g_condT ?_ | refine g_condF ?_ | refine g_add rfl (by omega) (by omega) ?_ | refine g_sub rfl (by omega) (by omega) ?_ | refine g_exit ?_ | refine g_thenExit ?_ | refine g_exitHere ?_ | refine g_exitOn rfl ?_ | refine g_ret ?_ | refine g_thenRet ?_ | refine g_blockRet ?_ | refine g_passS rfl ?_ | refine g_pass0 ?_ | refine g_passU rfl ?_ | refine g_passUS rfl ?_ | refine g_storeV ?_ | refine g_build1 rfl rfl fun _ _ => ?_ | refine g_buildN rfl rfl fun _ _ => ?_ | refine g_make rfl (by omega) (by omega) fun _ _ => ?_)
  rename_i p10 _
  rw [show (!decide ((0 : Int) = 0)) = false by simp]
  repeat (first | refine g_op rfl ?_ | refine g_then ?_ | refine g_nil ?_ | refine g_region ?_ | refine g_seq ?_ | refine g_opS rfl ?_ | refine g_open ?_ | refine g_pass rfl ?_ | refine g_store ?_ | refine g_box rfl fun _ _ => ?_ | refine g_alloc rfl fun _ _ => ?_ | refine g_allocS rfl fun _ _ => ?_ | refine g_storeAgg ?_ | refine g_inBlock ?_ | refine g_block ?_ | refine g_skip ?_ | refine g_condT ?_ | refine g_condF ?_ | refine g_add rfl (by omega) (by omega) ?_ | refine g_sub rfl (by omega) (by omega) ?_ | refine g_exit ?_ | refine g_thenExit ?_ | refine g_exitHere ?_ | refine g_exitOn rfl ?_ | refine g_ret ?_ | refine g_thenRet ?_ | refine g_blockRet ?_ | refine g_passS rfl ?_ | refine g_pass0 ?_ | refine g_passU rfl ?_ | refine g_passUS rfl ?_ | refine g_storeV ?_ | refine g_build1 rfl rfl fun _ _ => ?_ | refine g_buildN rfl rfl fun _ _ => ?_ | refine g_make rfl (by omega) (by omega) fun _ _ => ?_)
  rw [show decide ((i : Int) < 0) = false by simp]
  repeat (first | refine g_op rfl ?_ | refine g_then ?_ | refine g_nil ?_ | refine g_region ?_ | refine g_seq ?_ | refine g_opS rfl ?_ | refine g_open ?_ | refine g_pass rfl ?_ | refine g_store ?_ | refine g_box rfl fun _ _ => ?_ | refine g_alloc rfl fun _ _ => ?_ | refine g_allocS rfl fun _ _ => ?_ | refine g_storeAgg ?_ | refine g_inBlock ?_ | refine g_block ?_ | refine g_skip ?_ | refine g_condT ?_ | refine g_condF ?_ | refine g_add rfl (by omega) (by omega) ?_ | refine g_sub rfl (by omega) (by omega) ?_ | refine g_exit ?_ | refine g_thenExit ?_ | refine g_exitHere ?_ | refine g_exitOn rfl ?_ | refine g_ret ?_ | refine g_thenRet ?_ | refine g_blockRet ?_ | refine g_passS rfl ?_ | refine g_pass0 ?_ | refine g_passU rfl ?_ | refine g_passUS rfl ?_ | refine g_storeV ?_ | refine g_build1 rfl rfl fun _ _ => ?_ | refine g_buildN rfl rfl fun _ _ => ?_ | refine g_make rfl (by omega) (by omega) fun _ _ => ?_)
  rw [show decide ((fn : Int) ≤ (i : Int)) = false by simp; omega]
  repeat (first | refine g_op rfl ?_ | refine g_then ?_ | refine g_nil ?_ | refine g_region ?_ | refine g_seq ?_ | refine g_opS rfl ?_ | refine g_open ?_ | refine g_pass rfl ?_ | refine g_store ?_ | refine g_box rfl fun _ _ => ?_ | refine g_alloc rfl fun _ _ => ?_ | refine g_allocS rfl fun _ _ => ?_ | refine g_storeAgg ?_ | refine g_inBlock ?_ | refine g_block ?_ | refine g_skip ?_ | refine g_condT ?_ | refine g_condF ?_ | refine g_add rfl (by omega) (by omega) ?_ | refine g_sub rfl (by omega) (by omega) ?_ | refine g_exit ?_ | refine g_thenExit ?_ | refine g_exitHere ?_ | refine g_exitOn rfl ?_ | refine g_ret ?_ | refine g_thenRet ?_ | refine g_blockRet ?_ | refine g_passS rfl ?_ | refine g_pass0 ?_ | refine g_passU rfl ?_ | refine g_passUS rfl ?_ | refine g_storeV ?_ | refine g_build1 rfl rfl fun _ _ => ?_ | refine g_buildN rfl rfl fun _ _ => ?_ | refine g_make rfl (by omega) (by omega) fun _ _ => ?_)
  rw [show (!decide ((bn : Int) = (bn : Int))) = false by simp]
  repeat (first | refine g_op rfl ?_ | refine g_then ?_ | refine g_nil ?_ | refine g_region ?_ | refine g_seq ?_ | refine g_opS rfl ?_ | refine g_open ?_ | refine g_pass rfl ?_ | refine g_store ?_ | refine g_box rfl fun _ _ => ?_ | refine g_alloc rfl fun _ _ => ?_ | refine g_allocS rfl fun _ _ => ?_ | refine g_storeAgg ?_ | refine g_inBlock ?_ | refine g_block ?_ | refine g_skip ?_ | refine g_condT ?_ | refine g_condF ?_ | refine g_add rfl (by omega) (by omega) ?_ | refine g_sub rfl (by omega) (by omega) ?_ | refine g_exit ?_ | refine g_thenExit ?_ | refine g_exitHere ?_ | refine g_exitOn rfl ?_ | refine g_ret ?_ | refine g_thenRet ?_ | refine g_blockRet ?_ | refine g_passS rfl ?_ | refine g_pass0 ?_ | refine g_passU rfl ?_ | refine g_passUS rfl ?_ | refine g_storeV ?_ | refine g_build1 rfl rfl fun _ _ => ?_ | refine g_buildN rfl rfl fun _ _ => ?_ | refine g_make rfl (by omega) (by omega) fun _ _ => ?_)
  rw [show decide ((bn : Int) = 0) = false by simp; omega]
  repeat (first | refine g_op rfl ?_ | refine g_then ?_ | refine g_nil ?_ | refine g_region ?_ | refine g_seq ?_ | refine g_opS rfl ?_ | refine g_open ?_ | refine g_pass rfl ?_ | refine g_store ?_ | refine g_box rfl fun _ _ => ?_ | refine g_alloc rfl fun _ _ => ?_ | refine g_allocS rfl fun _ _ => ?_ | refine g_storeAgg ?_ | refine g_inBlock ?_ | refine g_block ?_ | refine g_skip ?_ | refine g_condT ?_ | refine g_condF ?_ | refine g_add rfl (by omega) (by omega) ?_ | refine g_sub rfl (by omega) (by omega) ?_ | refine g_exit ?_ | refine g_thenExit ?_ | refine g_exitHere ?_ | refine g_exitOn rfl ?_ | refine g_ret ?_ | refine g_thenRet ?_ | refine g_blockRet ?_ | refine g_passS rfl ?_ | refine g_pass0 ?_ | refine g_passU rfl ?_ | refine g_passUS rfl ?_ | refine g_storeV ?_ | refine g_build1 rfl rfl fun _ _ => ?_ | refine g_buildN rfl rfl fun _ _ => ?_ | refine g_make rfl (by omega) (by omega) fun _ _ => ?_)
  refine g_sel [2, 1] (by decide) ?_
  refine g_eqH (H1 := [Ent.box p4 [.slice ga gn gc, .slice fa fn fc] 25] ++ [(⟨np, fun w => SlAt w (.slice na bn nc) 1 (inG X.blocks X.regs.toNat) RowV⟩ : Ent)]) rfl ?_
  refine g_holdK fun w1 hw1 => ?_
  have hint : SlAt (killW (fps [Ent.box p4 [.slice ga gn gc, .slice fa fn fc] 25]) w1) (.slice na bn nc) 1 (inG X.blocks X.regs.toNat) RowV := hw1.beside (e := (⟨np, fun w => SlAt w (.slice na bn nc) 1 (inG X.blocks X.regs.toNat) RowV⟩ : Ent)) (by simp)
  have back : ∀ {E : List Ent} {w : World}, Wd (fps [Ent.box p4 [.slice ga gn gc, .slice fa fn fc] 25]) (killW (fps [Ent.box p4 [.slice ga gn gc, .slice fa fn fc] 25]) w1) E w → Wd NoS w0 (E ++ [(⟨np, fun w => SlAt w (.slice na bn nc) 1 (inG X.blocks X.regs.toNat) RowV⟩ : Ent)]) w := fun hw => hw1.comp hw.unkill
  have hkp : ∀ {E : List Ent} {w : World}, Wd (fps [Ent.box p4 [.slice ga gn gc, .slice fa fn fc] 25]) (killW (fps [Ent.box p4 [.slice ga gn gc, .slice fa fn fc] 25]) w1) E w → ∀ p v, (killW (fps [Ent.box p4 [.slice ga gn gc, .slice fa fn fc] 25]) w1).cell? p = some v → w.cell? p = some v := fun hw => hw.killKeep
  have hold : ∀ {b o : Nat} {v : Value} {l : List Value}, CellsAt (killW (fps [Ent.box p4 [.slice ga gn gc, .slice fa fn fc] 25]) w1) b o (v :: l) → OldIs (fps [Ent.box p4 [.slice ga gn gc, .slice fa fn fc] 25]) b := fun hc => killOldIs hc (by simp)
  have hcw := hfcs.keep hw1.killOld
  have hgk := hg0.keep keeps_global hw1.killOld
  have hfk := hf0.keep keeps_func hw1.killOld
  have hink := hin0.keep keeps_int hw1.killOld
  have hwayk := hways.keep hw1.killOld
  generalize killW (fps [Ent.box p4 [.slice ga gn gc, .slice fa fn fc] 25]) w1 = wk at *
  generalize fps [Ent.box p4 [.slice ga gn gc, .slice fa fn fc] 25] = SS at *
  have hciw : CellsIs wk fb (fo + i * 4) _ := ⟨hcw⟩
  have holf : OldIs SS fb := hold hcw
  obtain ⟨ns, hns, hnR⟩ := inG_row (R := X.regs.toNat) hpos
  obtain ⟨nb, no, hadn, holn, hnel⟩ := tabK hint hold (List.ne_nil_of_mem (List.mem_of_getElem? hns))
  obtain ⟨ra, rc, hcir, hrow⟩ := hnel 0 _ hns
  rw [List.length_map] at hcir hrow
  have hlt0 : LtIs 0 bn := ⟨by omega⟩
  repeat (first | refine g_op rfl ?_ | refine g_then ?_ | refine g_nil ?_ | refine g_region ?_ | refine g_seq ?_ | refine g_opS rfl ?_ | refine g_open ?_ | refine g_pass rfl ?_ | refine g_store ?_ | refine g_box rfl fun _ _ => ?_ | refine g_alloc rfl fun _ _ => ?_ | refine g_allocS rfl fun _ _ => ?_ | refine g_storeAgg ?_ | refine g_inBlock ?_ | refine g_block ?_ | refine g_skip ?_ | refine g_condT ?_ | refine g_condF ?_ | refine g_add rfl (by omega) (by omega) ?_ | refine g_sub rfl (by omega) (by omega) ?_ | refine g_exit ?_ | refine g_thenExit ?_ | refine g_exitHere ?_ | refine g_exitOn rfl ?_ | refine g_ret ?_ | refine g_thenRet ?_ | refine g_blockRet ?_ | refine g_passS rfl ?_ | refine g_pass0 ?_ | refine g_passU rfl ?_ | refine g_passUS rfl ?_ | refine g_storeV ?_ | refine g_build1 rfl rfl fun _ _ => ?_ | refine g_buildN rfl rfl fun _ _ => ?_ | refine g_make rfl (by omega) (by omega) fun _ _ => ?_)
  refine g_cond (fun h1 => ?_) (fun h1 => ?_)
  · refine g_unhold back ?_
    repeat (first | refine g_op rfl ?_ | refine g_then ?_ | refine g_nil ?_ | refine g_region ?_ | refine g_seq ?_ | refine g_opS rfl ?_ | refine g_open ?_ | refine g_pass rfl ?_ | refine g_store ?_ | refine g_box rfl fun _ _ => ?_ | refine g_alloc rfl fun _ _ => ?_ | refine g_allocS rfl fun _ _ => ?_ | refine g_storeAgg ?_ | refine g_inBlock ?_ | refine g_block ?_ | refine g_skip ?_ | refine g_condT ?_ | refine g_condF ?_ | refine g_add rfl (by omega) (by omega) ?_ | refine g_sub rfl (by omega) (by omega) ?_ | refine g_exit ?_ | refine g_thenExit ?_ | refine g_exitHere ?_ | refine g_exitOn rfl ?_ | refine g_ret ?_ | refine g_thenRet ?_ | refine g_blockRet ?_ | refine g_passS rfl ?_ | refine g_pass0 ?_ | refine g_passU rfl ?_ | refine g_passUS rfl ?_ | refine g_storeV ?_ | refine g_build1 rfl rfl fun _ _ => ?_ | refine g_buildN rfl rfl fun _ _ => ?_ | refine g_make rfl (by omega) (by omega) fun _ _ => ?_)
    exact g_retV rfl rfl
  have h12 : ns.length ≤ 12 := by simp at h1; omega
  repeat (first | refine g_op rfl ?_ | refine g_then ?_ | refine g_nil ?_ | refine g_region ?_ | refine g_seq ?_ | refine g_opS rfl ?_ | refine g_open ?_ | refine g_pass rfl ?_ | refine g_store ?_ | refine g_box rfl fun _ _ => ?_ | refine g_alloc rfl fun _ _ => ?_ | refine g_allocS rfl fun _ _ => ?_ | refine g_storeAgg ?_ | refine g_inBlock ?_ | refine g_block ?_ | refine g_skip ?_ | refine g_condT ?_ | refine g_condF ?_ | refine g_add rfl (by omega) (by omega) ?_ | refine g_sub rfl (by omega) (by omega) ?_ | refine g_exit ?_ | refine g_thenExit ?_ | refine g_exitHere ?_ | refine g_exitOn rfl ?_ | refine g_ret ?_ | refine g_thenRet ?_ | refine g_blockRet ?_ | refine g_passS rfl ?_ | refine g_pass0 ?_ | refine g_passU rfl ?_ | refine g_passUS rfl ?_ | refine g_storeV ?_ | refine g_build1 rfl rfl fun _ _ => ?_ | refine g_buildN rfl rfl fun _ _ => ?_ | refine g_make rfl (by omega) (by omega) fun _ _ => ?_)
  refine g_callE (val := UMem.val) (E := UMem.ents) (φ := fun m => m.unit = u ∧ m.Bd) rfl (fun w hw => unitR_c u (check_glim hch) (check_few hl) (check_lim hl hch) _ _ w (hgk.le mono_global (hkp hw)) (hfk.le mono_func (hkp hw))) fun m ⟨hmu, hmb⟩ => ?_
  unfold UMem.val
  repeat (first | refine g_op rfl ?_ | refine g_then ?_ | refine g_nil ?_ | refine g_region ?_ | refine g_seq ?_ | refine g_opS rfl ?_ | refine g_open ?_ | refine g_pass rfl ?_ | refine g_store ?_ | refine g_box rfl fun _ _ => ?_ | refine g_alloc rfl fun _ _ => ?_ | refine g_allocS rfl fun _ _ => ?_ | refine g_storeAgg ?_ | refine g_inBlock ?_ | refine g_block ?_ | refine g_skip ?_ | refine g_condT ?_ | refine g_condF ?_ | refine g_add rfl (by omega) (by omega) ?_ | refine g_sub rfl (by omega) (by omega) ?_ | refine g_exit ?_ | refine g_thenExit ?_ | refine g_exitHere ?_ | refine g_exitOn rfl ?_ | refine g_ret ?_ | refine g_thenRet ?_ | refine g_blockRet ?_ | refine g_passS rfl ?_ | refine g_pass0 ?_ | refine g_passU rfl ?_ | refine g_passUS rfl ?_ | refine g_storeV ?_ | refine g_build1 rfl rfl fun _ _ => ?_ | refine g_buildN rfl rfl fun _ _ => ?_ | refine g_make rfl (by omega) (by omega) fun _ _ => ?_)
  rename_i p11 _
  refine g_nilVec 71 8 ?_
  refine g_permH (H1 := Ent.vec none 0 0 71 8 [] :: Ent.box p11 [.slice m.ga m.gs.length m.gc, .slice m.fa m.fs.length m.fc] 25 :: Ent.box p4 [.slice ga gn gc, .slice fa fn fc] 25 :: m.ents) (((List.perm_append_comm (l₁ := m.ents) (l₂ := [Ent.box p4 [.slice ga gn gc, .slice fa fn fc] 25])).cons _).cons _) ?_
  refine g_loop (fun (x : Nat × Option Addr × Nat) => x.1 ≤ ns.length) (fun x => [(13, .int .i64 x.1), (12, .slice x.2.1 (zerosOf X (ns.take x.1)).length x.2.2), (11, .pointer (some ⟨p11, 0, none⟩)), (9, .slice na bn nc), (4, .pointer (some ⟨p4, 0, none⟩)), (1, .int .i64 i), (2, .slice ia il ic), (3, .int .i64 fuel)]) (fun x => Ent.vec x.2.1 (zerosOf X (ns.take x.1)).length x.2.2 71 8 (((zerosOf X (ns.take x.1)).map zRow).flatMap rowC) :: Ent.box p11 [.slice m.ga m.gs.length m.gc, .slice m.fa m.fs.length m.fc] 25 :: Ent.box p4 [.slice ga gn gc, .slice fa fn fc] 25 :: m.ents) (fun x => ns.length - x.1) (0, none, 0) (Nat.zero_le _) (g_done (by repeat (first | exact trivial | refine ⟨rfl, ?_⟩)) (by simp [zerosOf])) fun x hi => ?_
  obtain ⟨j, la, lc⟩ := x
  simp only at hi ⊢
  repeat (first | refine g_op rfl ?_ | refine g_then ?_ | refine g_nil ?_ | refine g_region ?_ | refine g_seq ?_ | refine g_opS rfl ?_ | refine g_open ?_ | refine g_pass rfl ?_ | refine g_store ?_ | refine g_box rfl fun _ _ => ?_ | refine g_alloc rfl fun _ _ => ?_ | refine g_allocS rfl fun _ _ => ?_ | refine g_storeAgg ?_ | refine g_inBlock ?_ | refine g_block ?_ | refine g_skip ?_ | refine g_condT ?_ | refine g_condF ?_ | refine g_add rfl (by omega) (by omega) ?_ | refine g_sub rfl (by omega) (by omega) ?_ | refine g_exit ?_ | refine g_thenExit ?_ | refine g_exitHere ?_ | refine g_exitOn rfl ?_ | refine g_ret ?_ | refine g_thenRet ?_ | refine g_blockRet ?_ | refine g_passS rfl ?_ | refine g_pass0 ?_ | refine g_passU rfl ?_ | refine g_passUS rfl ?_ | refine g_storeV ?_ | refine g_build1 rfl rfl fun _ _ => ?_ | refine g_buildN rfl rfl fun _ _ => ?_ | refine g_make rfl (by omega) (by omega) fun _ _ => ?_)
  refine g_cond (fun h2 => ?_) (fun h2 => ?_)
  · have hlt : j < ns.length := by simpa using h2
    obtain ⟨z, hz⟩ : ∃ z, ns[j]? = some z := ⟨_, List.getElem?_eq_getElem hlt⟩
    have hzR := hnR z (List.mem_of_getElem? hz)
    obtain ⟨rb, ro, hadr, holr, hrel⟩ := slKnown hrow hold (fun _ _ h => ⟨_, [], h.1⟩) (by intro e; simp at e; rw [e] at hlt; simp at hlt)
    obtain ⟨_, hciz, rfl, _⟩ := hrel j (z : Int) (by rw [List.getElem?_map, hz]; rfl)
    have hlj : LtIs j ns.length := ⟨hlt⟩
    repeat (first | refine g_op rfl ?_ | refine g_then ?_ | refine g_nil ?_ | refine g_region ?_ | refine g_seq ?_ | refine g_opS rfl ?_ | refine g_open ?_ | refine g_pass rfl ?_ | refine g_store ?_ | refine g_box rfl fun _ _ => ?_ | refine g_alloc rfl fun _ _ => ?_ | refine g_allocS rfl fun _ _ => ?_ | refine g_storeAgg ?_ | refine g_inBlock ?_ | refine g_block ?_ | refine g_skip ?_ | refine g_condT ?_ | refine g_condF ?_ | refine g_add rfl (by omega) (by omega) ?_ | refine g_sub rfl (by omega) (by omega) ?_ | refine g_exit ?_ | refine g_thenExit ?_ | refine g_exitHere ?_ | refine g_exitOn rfl ?_ | refine g_ret ?_ | refine g_thenRet ?_ | refine g_blockRet ?_ | refine g_passS rfl ?_ | refine g_pass0 ?_ | refine g_passU rfl ?_ | refine g_passUS rfl ?_ | refine g_storeV ?_ | refine g_build1 rfl rfl fun _ _ => ?_ | refine g_buildN rfl rfl fun _ _ => ?_ | refine g_make rfl (by omega) (by omega) fun _ _ => ?_)
    refine g_draw mixed (by kernel_rfl) ?_
    repeat (first | refine q_op rfl ?_ | refine q_opS rfl ?_ | refine q_open ?_ | refine q_pass rfl ?_ | refine q_passU rfl ?_ | refine q_add rfl (by omega) (by omega) ?_ | refine q_sub rfl (by omega) (by omega) ?_ | refine q_nil ?_)
    rw [show decide ((z : Int) < 0) = false by simp]
    repeat (first | refine q_op rfl ?_ | refine q_opS rfl ?_ | refine q_open ?_ | refine q_pass rfl ?_ | refine q_passU rfl ?_ | refine q_add rfl (by omega) (by omega) ?_ | refine q_sub rfl (by omega) (by omega) ?_ | refine q_nil ?_)
    repeat (first | refine g_op rfl ?_ | refine g_then ?_ | refine g_nil ?_ | refine g_region ?_ | refine g_seq ?_ | refine g_opS rfl ?_ | refine g_open ?_ | refine g_pass rfl ?_ | refine g_store ?_ | refine g_box rfl fun _ _ => ?_ | refine g_alloc rfl fun _ _ => ?_ | refine g_allocS rfl fun _ _ => ?_ | refine g_storeAgg ?_ | refine g_inBlock ?_ | refine g_block ?_ | refine g_skip ?_ | refine g_condT ?_ | refine g_condF ?_ | refine g_add rfl (by omega) (by omega) ?_ | refine g_sub rfl (by omega) (by omega) ?_ | refine g_exit ?_ | refine g_thenExit ?_ | refine g_exitHere ?_ | refine g_exitOn rfl ?_ | refine g_ret ?_ | refine g_thenRet ?_ | refine g_blockRet ?_ | refine g_passS rfl ?_ | refine g_pass0 ?_ | refine g_passU rfl ?_ | refine g_passUS rfl ?_ | refine g_storeV ?_ | refine g_build1 rfl rfl fun _ _ => ?_ | refine g_buildN rfl rfl fun _ _ => ?_ | refine g_make rfl (by omega) (by omega) fun _ _ => ?_)
    rw [show decide (X.regs ≤ (z : Int)) = false by simp; omega]
    repeat (first | refine q_op rfl ?_ | refine q_opS rfl ?_ | refine q_open ?_ | refine q_pass rfl ?_ | refine q_passU rfl ?_ | refine q_add rfl (by omega) (by omega) ?_ | refine q_sub rfl (by omega) (by omega) ?_ | refine q_nil ?_)
    repeat (first | refine g_op rfl ?_ | refine g_then ?_ | refine g_nil ?_ | refine g_region ?_ | refine g_seq ?_ | refine g_opS rfl ?_ | refine g_open ?_ | refine g_pass rfl ?_ | refine g_store ?_ | refine g_box rfl fun _ _ => ?_ | refine g_alloc rfl fun _ _ => ?_ | refine g_allocS rfl fun _ _ => ?_ | refine g_storeAgg ?_ | refine g_inBlock ?_ | refine g_block ?_ | refine g_skip ?_ | refine g_condT ?_ | refine g_condF ?_ | refine g_add rfl (by omega) (by omega) ?_ | refine g_sub rfl (by omega) (by omega) ?_ | refine g_exit ?_ | refine g_thenExit ?_ | refine g_exitHere ?_ | refine g_exitOn rfl ?_ | refine g_ret ?_ | refine g_thenRet ?_ | refine g_blockRet ?_ | refine g_passS rfl ?_ | refine g_pass0 ?_ | refine g_passU rfl ?_ | refine g_passUS rfl ?_ | refine g_storeV ?_ | refine g_build1 rfl rfl fun _ _ => ?_ | refine g_buildN rfl rfl fun _ _ => ?_ | refine g_make rfl (by omega) (by omega) fun _ _ => ?_)
    refine g_draw mixed (by kernel_rfl) ?_
    repeat (first | refine q_op rfl ?_ | refine q_opS rfl ?_ | refine q_open ?_ | refine q_pass rfl ?_ | refine q_passU rfl ?_ | refine q_add rfl (by omega) (by omega) ?_ | refine q_sub rfl (by omega) (by omega) ?_ | refine q_nil ?_)
    repeat (first | refine g_op rfl ?_ | refine g_then ?_ | refine g_nil ?_ | refine g_region ?_ | refine g_seq ?_ | refine g_opS rfl ?_ | refine g_open ?_ | refine g_pass rfl ?_ | refine g_store ?_ | refine g_box rfl fun _ _ => ?_ | refine g_alloc rfl fun _ _ => ?_ | refine g_allocS rfl fun _ _ => ?_ | refine g_storeAgg ?_ | refine g_inBlock ?_ | refine g_block ?_ | refine g_skip ?_ | refine g_condT ?_ | refine g_condF ?_ | refine g_add rfl (by omega) (by omega) ?_ | refine g_sub rfl (by omega) (by omega) ?_ | refine g_exit ?_ | refine g_thenExit ?_ | refine g_exitHere ?_ | refine g_exitOn rfl ?_ | refine g_ret ?_ | refine g_thenRet ?_ | refine g_blockRet ?_ | refine g_passS rfl ?_ | refine g_pass0 ?_ | refine g_passU rfl ?_ | refine g_passUS rfl ?_ | refine g_storeV ?_ | refine g_build1 rfl rfl fun _ _ => ?_ | refine g_buildN rfl rfl fun _ _ => ?_ | refine g_make rfl (by omega) (by omega) fun _ _ => ?_)
    have hzs := zerosOf_succ (X := X) hz
    have hzl : (zerosOf X (ns.take j)).length ≤ 12 := by
      have h1 := List.length_filter_le (fun z : Nat => decide (X.params ≤ (z : Int))) (ns.take j)
      have h2 := List.length_take_le j ns
      have h3 : (ns.take j).length ≤ ns.length := by rw [List.length_take]; omega
      unfold zerosOf
      omega
    by_cases hzp : X.params ≤ (z : Int)
    · rw [show decide (X.params ≤ (z : Int)) = true by simp [hzp]]
      rw [if_pos hzp] at hzs
      repeat (first | refine g_op rfl ?_ | refine g_then ?_ | refine g_nil ?_ | refine g_region ?_ | refine g_seq ?_ | refine g_opS rfl ?_ | refine g_open ?_ | refine g_pass rfl ?_ | refine g_store ?_ | refine g_box rfl fun _ _ => ?_ | refine g_alloc rfl fun _ _ => ?_ | refine g_allocS rfl fun _ _ => ?_ | refine g_storeAgg ?_ | refine g_inBlock ?_ | refine g_block ?_ | refine g_skip ?_ | refine g_condT ?_ | refine g_condF ?_ | refine g_add rfl (by omega) (by omega) ?_ | refine g_sub rfl (by omega) (by omega) ?_ | refine g_exit ?_ | refine g_thenExit ?_ | refine g_exitHere ?_ | refine g_exitOn rfl ?_ | refine g_ret ?_ | refine g_thenRet ?_ | refine g_blockRet ?_ | refine g_passS rfl ?_ | refine g_pass0 ?_ | refine g_passU rfl ?_ | refine g_passUS rfl ?_ | refine g_storeV ?_ | refine g_build1 rfl rfl fun _ _ => ?_ | refine g_buildN rfl rfl fun _ _ => ?_ | refine g_make rfl (by omega) (by omega) fun _ _ => ?_)
      refine g_append rfl rfl (by omega) (by omega) fun na' nc' => ?_
      repeat (first | refine g_op rfl ?_ | refine g_then ?_ | refine g_nil ?_ | refine g_region ?_ | refine g_seq ?_ | refine g_opS rfl ?_ | refine g_open ?_ | refine g_pass rfl ?_ | refine g_store ?_ | refine g_box rfl fun _ _ => ?_ | refine g_alloc rfl fun _ _ => ?_ | refine g_allocS rfl fun _ _ => ?_ | refine g_storeAgg ?_ | refine g_inBlock ?_ | refine g_block ?_ | refine g_skip ?_ | refine g_condT ?_ | refine g_condF ?_ | refine g_add rfl (by omega) (by omega) ?_ | refine g_sub rfl (by omega) (by omega) ?_ | refine g_exit ?_ | refine g_thenExit ?_ | refine g_exitHere ?_ | refine g_exitOn rfl ?_ | refine g_ret ?_ | refine g_thenRet ?_ | refine g_blockRet ?_ | refine g_passS rfl ?_ | refine g_pass0 ?_ | refine g_passU rfl ?_ | refine g_passUS rfl ?_ | refine g_storeV ?_ | refine g_build1 rfl rfl fun _ _ => ?_ | refine g_buildN rfl rfl fun _ _ => ?_ | refine g_make rfl (by omega) (by omega) fun _ _ => ?_)
      have hl1 : (zerosOf X (ns.take (j + 1))).length = (zerosOf X (ns.take j)).length + 1 := by rw [hzs, List.length_append]; rfl
      have hf1 : ((zerosOf X (ns.take (j + 1))).map zRow).flatMap rowC = ((zerosOf X (ns.take j)).map zRow).flatMap rowC ++ rowC (zRow z) := by rw [hzs, List.map_append, List.flatMap_append]; simp
      refine g_fix (L' := [(13, .int .i64 ((j : Int) + 1)), (12, .slice na' ((zerosOf X (ns.take j)).length + 1) nc'), (11, .pointer (some ⟨p11, 0, none⟩)), (9, .slice na bn nc), (4, .pointer (some ⟨p4, 0, none⟩)), (1, .int .i64 i), (2, .slice ia il ic), (3, .int .i64 fuel)]) (by repeat (first | exact trivial | refine ⟨rfl, ?_⟩)) (List.Sublist.cons _ (List.Sublist.refl _)) ?_
      refine g_eqH (H1 := Ent.vec na' (zerosOf X (ns.take (j + 1))).length nc' 71 8 (((zerosOf X (ns.take (j + 1))).map zRow).flatMap rowC) :: Ent.box p11 [.slice m.ga m.gs.length m.gc, .slice m.fa m.fs.length m.fc] 25 :: Ent.box p4 [.slice ga gn gc, .slice fa fn fc] 25 :: m.ents) (by rw [hf1, hl1]; rfl) ?_
      rw [← hl1, show (j : Int) + 1 = ((j + 1 : Nat) : Int) by omega]
      refine g_next (j + 1, na', nc') hlt (by simp only; omega) (by repeat (first | exact trivial | refine ⟨rfl, ?_⟩)) (List.Sublist.refl _)
    · rw [show decide (X.params ≤ (z : Int)) = false by simp; omega]
      rw [if_neg hzp, List.append_nil] at hzs
      repeat (first | refine g_op rfl ?_ | refine g_then ?_ | refine g_nil ?_ | refine g_region ?_ | refine g_seq ?_ | refine g_opS rfl ?_ | refine g_open ?_ | refine g_pass rfl ?_ | refine g_store ?_ | refine g_box rfl fun _ _ => ?_ | refine g_alloc rfl fun _ _ => ?_ | refine g_allocS rfl fun _ _ => ?_ | refine g_storeAgg ?_ | refine g_inBlock ?_ | refine g_block ?_ | refine g_skip ?_ | refine g_condT ?_ | refine g_condF ?_ | refine g_add rfl (by omega) (by omega) ?_ | refine g_sub rfl (by omega) (by omega) ?_ | refine g_exit ?_ | refine g_thenExit ?_ | refine g_exitHere ?_ | refine g_exitOn rfl ?_ | refine g_ret ?_ | refine g_thenRet ?_ | refine g_blockRet ?_ | refine g_passS rfl ?_ | refine g_pass0 ?_ | refine g_passU rfl ?_ | refine g_passUS rfl ?_ | refine g_storeV ?_ | refine g_build1 rfl rfl fun _ _ => ?_ | refine g_buildN rfl rfl fun _ _ => ?_ | refine g_make rfl (by omega) (by omega) fun _ _ => ?_)
      rw [← hzs, show (j : Int) + 1 = ((j + 1 : Nat) : Int) by omega]
      refine g_next (j + 1, la, lc) hlt (by simp only; omega) (by repeat (first | exact trivial | refine ⟨rfl, ?_⟩)) (List.Sublist.refl _)
  have hje : j = ns.length := by have := h2; simp at this; omega
  subst hje
  rw [List.take_length]
  obtain ⟨zr, hzr⟩ : ∃ zr, zr = zerosOf X ns := ⟨_, rfl⟩
  have hz12 : zr.length ≤ 12 := by
    rw [hzr]
    exact Nat.le_trans (List.length_filter_le _ _) h12
  have hzb : ∀ z ∈ zr, X.params ≤ (z : Int) ∧ (z : Int) < X.regs := fun z hz => by
    rw [hzr] at hz
    obtain ⟨h3, h4⟩ := List.mem_filter.1 hz
    have := hnR z h3
    exact ⟨by simpa using h4, by omega⟩
  rw [← hzr]
  clear hzr h2 hi
  obtain ⟨y, hy, hyX⟩ : ∃ y, m.fs[i]? = some y ∧ y.fn = X := by
    have h3 : (m.fs.map URow.fn)[i]? = some X := by rw [← hX, ← hmu]; rfl
    rw [List.getElem?_map] at h3
    exact Option.map_eq_some_iff.1 h3
  have hyb : y.bs.map BRow.blk = X.blocks := by rw [← hyX]; rfl
  have hyn : y.bs.length = X.blocks.length := by rw [← hyb, List.length_map]
  obtain ⟨b, hb0⟩ : ∃ b, y.bs[0]? = some b := ⟨_, List.getElem?_eq_getElem (by omega)⟩
  have hbd := (hmb.func y (List.mem_of_getElem? hy)).2 b (List.mem_of_getElem? hb0)
  refine g_wd (H' := Ent.vec la zr.length lc 71 8 ((zr.map zRow).flatMap rowC) :: bvE y :: Ent.box p11 [.slice m.ga m.gs.length m.gc, .slice m.fa m.fs.length m.fc] 25 :: Ent.box p4 [.slice ga gn gc, .slice fa fn fc] 25 :: lvE b :: fvE m :: (b.xs.map roE ++ restE m i y 0 b)) (fun w hw => ?_) ?_
  · have h3 : Wd SS wk (m.ents ++ [Ent.vec la zr.length lc 71 8 ((zr.map zRow).flatMap rowC), Ent.box p11 [.slice m.ga m.gs.length m.gc, .slice m.fa m.fs.length m.fc] 25, Ent.box p4 [.slice ga gn gc, .slice fa fn fc] 25]) w := hw.perm (List.perm_append_comm (l₁ := [_, _, _]) (l₂ := m.ents))
    refine (h3.uopen hy hb0).perm ?_
    classical
    refine List.perm_iff_count.2 fun e => ?_
    simp only [List.count_append, List.count_cons, List.count_nil]
    omega
  unfold bvE fvE
  refine g_vec 1 rfl (by omega) fun bb bo hba => ?_
  refine g_vec 5 rfl (by have := (List.getElem?_eq_some_iff.1 hy).1; omega) fun vb vo hva => ?_
  rw [hba, hva]
  repeat (first | refine g_op rfl ?_ | refine g_then ?_ | refine g_nil ?_ | refine g_region ?_ | refine g_seq ?_ | refine g_opS rfl ?_ | refine g_open ?_ | refine g_pass rfl ?_ | refine g_store ?_ | refine g_box rfl fun _ _ => ?_ | refine g_alloc rfl fun _ _ => ?_ | refine g_allocS rfl fun _ _ => ?_ | refine g_storeAgg ?_ | refine g_inBlock ?_ | refine g_block ?_ | refine g_skip ?_ | refine g_condT ?_ | refine g_condF ?_ | refine g_add rfl (by omega) (by omega) ?_ | refine g_sub rfl (by omega) (by omega) ?_ | refine g_exit ?_ | refine g_thenExit ?_ | refine g_exitHere ?_ | refine g_exitOn rfl ?_ | refine g_ret ?_ | refine g_thenRet ?_ | refine g_blockRet ?_ | refine g_passS rfl ?_ | refine g_pass0 ?_ | refine g_passU rfl ?_ | refine g_passUS rfl ?_ | refine g_storeV ?_ | refine g_build1 rfl rfl fun _ _ => ?_ | refine g_buildN rfl rfl fun _ _ => ?_ | refine g_make rfl (by omega) (by omega) fun _ _ => ?_)
  have hil' : LtIs i m.fs.length := ⟨(List.getElem?_eq_some_iff.1 hy).1⟩
  have hlt1 : LtIs 0 y.bs.length := ⟨by omega⟩
  have hoc1 : OwnCell (Ent.box p11 [.slice m.ga m.gs.length m.gc, .slice (some ⟨vb, vo, none⟩) m.fs.length m.fc] 25 :: Ent.box p4 [.slice ga gn gc, .slice fa fn fc] 25 :: lvE b :: Ent.vec (some ⟨vb, vo, none⟩) m.fs.length m.fc 35 4 (m.fs.flatMap uC) :: (b.xs.map roE ++ restE m i y 0 b)) vb (vo + i * 4 + 3) (.slice (some ⟨bb, bo, none⟩) y.bs.length y.c) := ⟨fun _ _ _ hw => by
    have h5 := hw.vecCell (k := 3) rfl (flat_at uC_len m.fs i y 3 _ hy rfl)
    rw [hba] at h5
    rwa [← Nat.add_assoc] at h5⟩
  have hoc2 : OwnCell (Ent.vec la zr.length lc 71 8 ((zr.map zRow).flatMap rowC) :: Ent.vec (some ⟨bb, bo, none⟩) y.bs.length y.c 47 6 (y.bs.flatMap blkC) :: Ent.box p11 [.slice m.ga m.gs.length m.gc, .slice (some ⟨vb, vo, none⟩) m.fs.length m.fc] 25 :: Ent.box p4 [.slice ga gn gc, .slice fa fn fc] 25 :: lvE b :: Ent.vec (some ⟨vb, vo, none⟩) m.fs.length m.fc 35 4 (m.fs.flatMap uC) :: (b.xs.map roE ++ restE m i y 0 b)) bb (bo + 0 * 6 + 1) (.slice b.la b.xs.length b.lc) := ⟨fun _ _ _ hw => by
    have h5 := hw.vecCell (k := 1) rfl (flat_at blkC_len y.bs 0 b 1 _ hb0 rfl)
    rwa [← Nat.add_assoc] at h5⟩
  have hbl := hbd.list
  refine g_drawH (Ent.box p11 [.slice m.ga m.gs.length m.gc, .slice (some ⟨vb, vo, none⟩) m.fs.length m.fc] 25 :: Ent.box p4 [.slice ga gn gc, .slice fa fn fc] 25 :: lvE b :: Ent.vec (some ⟨vb, vo, none⟩) m.fs.length m.fc 35 4 (m.fs.flatMap uC) :: (b.xs.map roE ++ restE m i y 0 b)) mixed (by repeat (first | exact List.Sublist.refl _ | refine List.Sublist.cons _ ?_)) ?_
  (first | refine h_take 0 rfl (by decide +kernel) (by repeat (first | exact List.Sublist.refl _ | refine List.Sublist.cons _ ?_)) ?_ | refine h_takeG 0 rfl (by decide +kernel) (by repeat (first | exact List.Sublist.refl _ | refine List.Sublist.cons _ ?_)) ?_ | refine h_takeP 0 rfl (by decide +kernel) (by repeat (first | exact List.Sublist.refl _ | refine List.Sublist.cons _ ?_)) ?_)
  (first | refine h_take 1 rfl (by decide +kernel) (by repeat (first | exact List.Sublist.refl _ | refine List.Sublist.cons _ ?_)) ?_ | refine h_takeG 1 rfl (by decide +kernel) (by repeat (first | exact List.Sublist.refl _ | refine List.Sublist.cons _ ?_)) ?_ | refine h_takeP 1 rfl (by decide +kernel) (by repeat (first | exact List.Sublist.refl _ | refine List.Sublist.cons _ ?_)) ?_)
  (first | refine h_take 2 rfl (by decide +kernel) (by repeat (first | exact List.Sublist.refl _ | refine List.Sublist.cons _ ?_)) ?_ | refine h_takeG 2 rfl (by decide +kernel) (by repeat (first | exact List.Sublist.refl _ | refine List.Sublist.cons _ ?_)) ?_ | refine h_takeP 2 rfl (by decide +kernel) (by repeat (first | exact List.Sublist.refl _ | refine List.Sublist.cons _ ?_)) ?_)
  (first | refine h_take 3 rfl (by decide +kernel) (by repeat (first | exact List.Sublist.refl _ | refine List.Sublist.cons _ ?_)) ?_ | refine h_takeG 3 rfl (by decide +kernel) (by repeat (first | exact List.Sublist.refl _ | refine List.Sublist.cons _ ?_)) ?_ | refine h_takeP 3 rfl (by decide +kernel) (by repeat (first | exact List.Sublist.refl _ | refine List.Sublist.cons _ ?_)) ?_)
  (first | refine h_take 4 rfl (by decide +kernel) (by repeat (first | exact List.Sublist.refl _ | refine List.Sublist.cons _ ?_)) ?_ | refine h_takeG 4 rfl (by decide +kernel) (by repeat (first | exact List.Sublist.refl _ | refine List.Sublist.cons _ ?_)) ?_ | refine h_takeP 4 rfl (by decide +kernel) (by repeat (first | exact List.Sublist.refl _ | refine List.Sublist.cons _ ?_)) ?_)
  (first | refine h_take 5 rfl (by decide +kernel) (by repeat (first | exact List.Sublist.refl _ | refine List.Sublist.cons _ ?_)) ?_ | refine h_takeG 5 rfl (by decide +kernel) (by repeat (first | exact List.Sublist.refl _ | refine List.Sublist.cons _ ?_)) ?_ | refine h_takeP 5 rfl (by decide +kernel) (by repeat (first | exact List.Sublist.refl _ | refine List.Sublist.cons _ ?_)) ?_)
  (first | refine h_take 6 rfl (by decide +kernel) (by repeat (first | exact List.Sublist.refl _ | refine List.Sublist.cons _ ?_)) ?_ | refine h_takeG 6 rfl (by decide +kernel) (by repeat (first | exact List.Sublist.refl _ | refine List.Sublist.cons _ ?_)) ?_ | refine h_takeP 6 rfl (by decide +kernel) (by repeat (first | exact List.Sublist.refl _ | refine List.Sublist.cons _ ?_)) ?_)
  (first | refine h_take 7 rfl (by decide +kernel) (by repeat (first | exact List.Sublist.refl _ | refine List.Sublist.cons _ ?_)) ?_ | refine h_takeG 7 rfl (by decide +kernel) (by repeat (first | exact List.Sublist.refl _ | refine List.Sublist.cons _ ?_)) ?_ | refine h_takeP 7 rfl (by decide +kernel) (by repeat (first | exact List.Sublist.refl _ | refine List.Sublist.cons _ ?_)) ?_)
  (first | refine h_take 8 rfl (by decide +kernel) (by repeat (first | exact List.Sublist.refl _ | refine List.Sublist.cons _ ?_)) ?_ | refine h_takeG 8 rfl (by decide +kernel) (by repeat (first | exact List.Sublist.refl _ | refine List.Sublist.cons _ ?_)) ?_ | refine h_takeP 8 rfl (by decide +kernel) (by repeat (first | exact List.Sublist.refl _ | refine List.Sublist.cons _ ?_)) ?_)
  (first | refine h_take 9 rfl (by decide +kernel) (by repeat (first | exact List.Sublist.refl _ | refine List.Sublist.cons _ ?_)) ?_ | refine h_takeG 9 rfl (by decide +kernel) (by repeat (first | exact List.Sublist.refl _ | refine List.Sublist.cons _ ?_)) ?_ | refine h_takeP 9 rfl (by decide +kernel) (by repeat (first | exact List.Sublist.refl _ | refine List.Sublist.cons _ ?_)) ?_)
  (first | refine h_take 10 rfl (by decide +kernel) (by repeat (first | exact List.Sublist.refl _ | refine List.Sublist.cons _ ?_)) ?_ | refine h_takeG 10 rfl (by decide +kernel) (by repeat (first | exact List.Sublist.refl _ | refine List.Sublist.cons _ ?_)) ?_ | refine h_takeP 10 rfl (by decide +kernel) (by repeat (first | exact List.Sublist.refl _ | refine List.Sublist.cons _ ?_)) ?_)
  (first | refine h_take 11 rfl (by decide +kernel) (by repeat (first | exact List.Sublist.refl _ | refine List.Sublist.cons _ ?_)) ?_ | refine h_takeG 11 rfl (by decide +kernel) (by repeat (first | exact List.Sublist.refl _ | refine List.Sublist.cons _ ?_)) ?_ | refine h_takeP 11 rfl (by decide +kernel) (by repeat (first | exact List.Sublist.refl _ | refine List.Sublist.cons _ ?_)) ?_)
  (first | refine h_take 12 rfl (by decide +kernel) (by repeat (first | exact List.Sublist.refl _ | refine List.Sublist.cons _ ?_)) ?_ | refine h_takeG 12 rfl (by decide +kernel) (by repeat (first | exact List.Sublist.refl _ | refine List.Sublist.cons _ ?_)) ?_ | refine h_takeP 12 rfl (by decide +kernel) (by repeat (first | exact List.Sublist.refl _ | refine List.Sublist.cons _ ?_)) ?_)
  (first | refine h_take 13 rfl (by decide +kernel) (by repeat (first | exact List.Sublist.refl _ | refine List.Sublist.cons _ ?_)) ?_ | refine h_takeG 13 rfl (by decide +kernel) (by repeat (first | exact List.Sublist.refl _ | refine List.Sublist.cons _ ?_)) ?_ | refine h_takeP 13 rfl (by decide +kernel) (by repeat (first | exact List.Sublist.refl _ | refine List.Sublist.cons _ ?_)) ?_)
  (first | refine h_take 14 rfl (by decide +kernel) (by repeat (first | exact List.Sublist.refl _ | refine List.Sublist.cons _ ?_)) ?_ | refine h_takeG 14 rfl (by decide +kernel) (by repeat (first | exact List.Sublist.refl _ | refine List.Sublist.cons _ ?_)) ?_ | refine h_takeP 14 rfl (by decide +kernel) (by repeat (first | exact List.Sublist.refl _ | refine List.Sublist.cons _ ?_)) ?_)
  refine h_one 15 (by decide +kernel) ?_
  refine o_op 15 rfl (by repeat (first | exact List.Sublist.refl _ | refine List.Sublist.cons _ ?_)) ?_
  refine h_one 16 (by decide +kernel) ?_
  refine o_appendF 16 (k := 0) rfl rfl b.xs (V := RowC) rowC (fun _ _ _ h => h) (fun _ => rfl) rowC_one (fun w hw => flat_sl hw (k := 4) rfl rowC_len (by omega)) (by omega) (by omega) (fun _ => by simp only [List.set_cons_zero, List.set_cons_succ]; repeat (first | exact List.Sublist.refl _ | refine List.Sublist.cons _ ?_)) fun na' nc' => ?_
  simp only [List.set_cons_zero, List.set_cons_succ]
  rw [show zr.length + b.xs.length = ((zr.map zRow ++ b.xs)).length by rw [List.length_append, List.length_map], ← List.flatMap_append]
  have hoat : ∀ X : Ent, OwnAt (X :: Ent.vec (some ⟨bb, bo, none⟩) y.bs.length y.c 47 6 (y.bs.flatMap blkC) :: Ent.box p11 [.slice m.ga m.gs.length m.gc, .slice (some ⟨vb, vo, none⟩) m.fs.length m.fc] 25 :: Ent.box p4 [.slice ga gn gc, .slice fa fn fc] 25 :: lvE b :: Ent.vec (some ⟨vb, vo, none⟩) m.fs.length m.fc 35 4 (m.fs.flatMap uC) :: (b.xs.map roE ++ restE m i y 0 b)) bb (bo + 0 * 6 + 1) 1 bo (0 * 6 + 1) y.bs.length y.c 47 6 (y.bs.flatMap blkC) := fun X => ⟨rfl, by omega⟩
  have hxs : XSet (y.bs.flatMap blkC) (0 * 6 + 1) (.slice na' ((zr.map zRow ++ b.xs)).length nc') ((y.bs.set 0 (putLs b na' nc' (zr.map zRow ++ b.xs))).flatMap blkC) := ⟨flat_set blkC_len hb0 (k := 1) (by omega) rfl, by rw [flat_len blkC_len]; omega⟩
  (first | refine h_take 17 rfl (by decide +kernel) (by repeat (first | exact List.Sublist.refl _ | refine List.Sublist.cons _ ?_)) ?_ | refine h_takeG 17 rfl (by decide +kernel) (by repeat (first | exact List.Sublist.refl _ | refine List.Sublist.cons _ ?_)) ?_ | refine h_takeP 17 rfl (by decide +kernel) (by repeat (first | exact List.Sublist.refl _ | refine List.Sublist.cons _ ?_)) ?_)
  (first | refine h_take 18 rfl (by decide +kernel) (by repeat (first | exact List.Sublist.refl _ | refine List.Sublist.cons _ ?_)) ?_ | refine h_takeG 18 rfl (by decide +kernel) (by repeat (first | exact List.Sublist.refl _ | refine List.Sublist.cons _ ?_)) ?_ | refine h_takeP 18 rfl (by decide +kernel) (by repeat (first | exact List.Sublist.refl _ | refine List.Sublist.cons _ ?_)) ?_)
  refine h_storeV 19 (by decide +kernel) (by decide +kernel) (by repeat (first | exact List.Sublist.refl _ | refine List.Sublist.cons _ ?_)) ?_
  obtain ⟨m', hm'⟩ : ∃ m', m' = m.put i (y.put 0 (putLs b na' nc' (zr.map zRow ++ b.xs))) := ⟨_, rfl⟩
  have hbxl : b.xs.length ≤ 1000 := hbl
  have hblk : b.blk = X.blocks[0] := by
    have h3 := congrArg (fun l => l[0]?) hyb
    simp only [List.getElem?_map, hb0, Option.map_some, List.getElem?_eq_getElem hpos, Option.some.injEq] at h3
    exact h3
  have hlen0 := (hlim.each X.blocks[0] (List.getElem_mem _)).2.2.1
  have hxb : ∀ z ∈ (zr.map zRow ++ b.xs), (inI z.x.op ∧ inI z.x.dst ∧ inI z.x.a.n ∧ inI z.x.b.n ∧ inI z.x.fn) ∧ z.x.args.length ≤ 1000 ∧ ∀ v ∈ z.x.args, inI v.n := fun z hz => by
    rcases List.mem_append.1 hz with hz | hz
    · obtain ⟨r, hr, rfl⟩ := List.mem_map.1 hz
      have := hzb r hr
      simp only [zRow, zIns, noV, inI, List.length_nil, List.not_mem_nil, false_implies, implies_true, and_true]
      omega
    · exact hbd.ins z hz
  have hxl : ((zr.map zRow ++ b.xs)).length ≤ 1000 := by
    have h3 : b.xs.length = X.blocks[0].list.length := by rw [← hblk]; simp [BRow.blk]
    have h4 : (X.blocks[0].list.length : Int) ≤ 120 := by
      have h5 := (hsl.2 X (List.mem_of_getElem? hX)).2
      have h6 := list_size (List.getElem_mem hpos)
      omega
    rw [List.length_append, List.length_map]
    omega
  have hfew : m.Few := ⟨by have h3 : m.gs.length = u.globals.length := by rw [← hmu]; simp [UMem.unit]
                           have := (check_zero.1 hch).globs
                           omega, by have h3 : m.fs.length = u.funcs.length := by rw [← hmu]; simp [UMem.unit]
                                     have := hl.1
                                     omega, fun z hz => by
    have h3 : z.fn ∈ u.funcs := by rw [← hmu]; exact List.mem_map.2 ⟨z, hz, rfl⟩
    have h4 := (hl.2 _ h3).1
    have h5 : z.fn.blocks.length = z.bs.length := by simp [URow.fn]
    omega⟩
  have hmB : m'.Bd := hm' ▸ put_bd hmb hy hb0 hxl hxb
  have hmF : m'.Few := hm' ▸ put_few hfew hy
  have hmU : m'.unit = addU u i (zr.map zIns) := by
    rw [hm', put_unit hy hb0, hmu]
    refine congrArg (LUnit.mk u.globals) (modify_at hX ?_)
    refine congrArg (fun bl => ({ X with blocks := bl } : LFunc)) (modify_at (l := X.blocks) (List.getElem?_eq_getElem hpos) ?_)
    rw [← hblk]
    simp [BRow.blk, zRow]
  have e1 : m'.ga = m.ga := by rw [hm']; rfl
  have e2 : m'.gs = m.gs := by rw [hm']; rfl
  have e3 : m'.gc = m.gc := by rw [hm']; rfl
  have e4 : m'.fa = some ⟨vb, vo, none⟩ := by rw [← hva, hm']; rfl
  have e5 : m'.fs.length = m.fs.length := by rw [hm']; unfold UMem.put; simp only [List.length_set]
  have e6 : m'.fc = m.fc := by rw [hm']; rfl
  have hms : ∀ (H : List Ent) (w : World), Wd NoS w0 (m'.ents ++ H) w → SlAt w (.slice m.ga m.gs.length m.gc) 3 (addU u i (zr.map zIns)).globals GlobalV ∧ SlAt w (.slice (some ⟨vb, vo, none⟩) m.fs.length m.fc) 4 (addU u i (zr.map zIns)).funcs FuncV := fun H w hw => by
    have h3 := UMem.sl hmB hmF hw
    rw [hmU, e1, e2, e3, e4, e5, e6] at h3
    exact h3
  have hzro : (zr.map zRow).map roE = List.replicate zr.length (Ent.vec none 0 0 41 2 []) := List.eq_replicate_iff.2 ⟨by simp, fun e he => by
    obtain ⟨r, hr, rfl⟩ := List.mem_map.1 he
    obtain ⟨z, _, rfl⟩ := List.mem_map.1 hr
    rfl⟩
  refine g_nilVecs 41 2 zr.length ?_
  refine g_wd (H' := Ent.box p11 [.slice m.ga m.gs.length m.gc, .slice (some ⟨vb, vo, none⟩) m.fs.length m.fc] 25 :: Ent.box p4 [.slice ga gn gc, .slice fa fn fc] 25 :: m'.ents) (fun w hw => ?_) ?_
  · have h3 : Wd SS wk (lvE (putLs b na' nc' (zr.map zRow ++ b.xs)) :: bvE (y.put 0 (putLs b na' nc' (zr.map zRow ++ b.xs))) :: fvE m :: (((zr.map zRow ++ b.xs)).map roE ++ (restE m i y 0 b ++ [Ent.box p11 [.slice m.ga m.gs.length m.gc, .slice (some ⟨vb, vo, none⟩) m.fs.length m.fc] 25, Ent.box p4 [.slice ga gn gc, .slice fa fn fc] 25]))) w := by
      refine (hw.perm ?_).sub (List.sublist_cons_self (lvE b) _)
      rw [List.map_append, hzro]
      have h4 : fvE m = Ent.vec (some ⟨vb, vo, none⟩) m.fs.length m.fc 35 4 (m.fs.flatMap uC) := by unfold fvE; rw [hva]
      have h5 : bvE (y.put 0 (putLs b na' nc' (zr.map zRow ++ b.xs))) = Ent.vec (some ⟨bb, bo, none⟩) y.bs.length y.c 47 6 ((y.bs.set 0 (putLs b na' nc' (zr.map zRow ++ b.xs))).flatMap blkC) := by unfold bvE URow.put; simp only [List.length_set]; rw [hba]
      have h6 : lvE (putLs b na' nc' (zr.map zRow ++ b.xs)) = Ent.vec na' ((zr.map zRow ++ b.xs)).length nc' 71 8 (((zr.map zRow ++ b.xs)).flatMap rowC) := rfl
      rw [h4, h5, h6]
      classical
      refine List.perm_iff_count.2 fun e => ?_
      simp only [List.count_append, List.count_cons, List.count_nil]
      omega
    have h7 := h3.uclose hy hb0
    rw [← hm'] at h7
    exact h7.perm (List.perm_append_comm (l₂ := [_, _]))
  refine g_unhold back ?_
  simp only [List.cons_append]
  repeat (first | refine g_op rfl ?_ | refine g_then ?_ | refine g_nil ?_ | refine g_region ?_ | refine g_seq ?_ | refine g_opS rfl ?_ | refine g_open ?_ | refine g_pass rfl ?_ | refine g_store ?_ | refine g_box rfl fun _ _ => ?_ | refine g_alloc rfl fun _ _ => ?_ | refine g_allocS rfl fun _ _ => ?_ | refine g_storeAgg ?_ | refine g_inBlock ?_ | refine g_block ?_ | refine g_skip ?_ | refine g_condT ?_ | refine g_condF ?_ | refine g_add rfl (by omega) (by omega) ?_ | refine g_sub rfl (by omega) (by omega) ?_ | refine g_exit ?_ | refine g_thenExit ?_ | refine g_exitHere ?_ | refine g_exitOn rfl ?_ | refine g_ret ?_ | refine g_thenRet ?_ | refine g_blockRet ?_ | refine g_passS rfl ?_ | refine g_pass0 ?_ | refine g_passU rfl ?_ | refine g_passUS rfl ?_ | refine g_storeV ?_ | refine g_build1 rfl rfl fun _ _ => ?_ | refine g_buildN rfl rfl fun _ _ => ?_ | refine g_make rfl (by omega) (by omega) fun _ _ => ?_)
  have hcz := zero_check (check_zero.1 hch) hX (fun z hz => (hzb z hz).2) (by have := (hsl.2 X (List.mem_of_getElem? hX)).2; omega)
  have hfit := unit_fit hl hch (nums_of hf0)
  have hini : ∀ x ∈ inp, inI x := fun x hx => by obtain ⟨_, _, h9⟩ := hin0.el hx; exact h9
  refine g_callV rfl (fun w hw => same_c u (addU u i (zr.map zIns)) hl (zero_light hcz) _ _ _ _ _ inp fuel w (hg0.keep keeps_global hw.chg) (hf0.keep keeps_func hw.chg) (hms _ w (hw.sub (List.Sublist.cons _ (List.Sublist.cons _ (List.Sublist.refl _))))).1 (hms _ w (hw.sub (List.Sublist.cons _ (List.Sublist.cons _ (List.Sublist.refl _))))).2 (hin0.keep keeps_int hw.chg) (hways.keep hw.chg) fun f hf2 hc0 hst => ?_) ?_
  · obtain ⟨_, hil, _⟩ := countsE_zero hc0
    obtain ⟨h3, h4, h5⟩ := lift_result hfit (check_start hch (gnums_of hg0)) (check_to (check_zero.1 hch)) hX hpos (fun z hz => (hzb z hz).1) (addU_main _ _ _) hini f (20 * f + 200) hst (by
      have : (zr.length + 1) * f ≤ 13 * f := Nat.mul_le_mul_right _ (by omega)
      omega)
    refine ⟨?_, h3, h4, h5⟩
    unfold countsE
    rw [if_neg (by simp [check_zero.2 hcz]), if_neg (by omega), if_neg (by simp [within]; omega)]
  repeat (first | refine g_op rfl ?_ | refine g_then ?_ | refine g_nil ?_ | refine g_region ?_ | refine g_seq ?_ | refine g_opS rfl ?_ | refine g_open ?_ | refine g_pass rfl ?_ | refine g_store ?_ | refine g_box rfl fun _ _ => ?_ | refine g_alloc rfl fun _ _ => ?_ | refine g_allocS rfl fun _ _ => ?_ | refine g_storeAgg ?_ | refine g_inBlock ?_ | refine g_block ?_ | refine g_skip ?_ | refine g_condT ?_ | refine g_condF ?_ | refine g_add rfl (by omega) (by omega) ?_ | refine g_sub rfl (by omega) (by omega) ?_ | refine g_exit ?_ | refine g_thenExit ?_ | refine g_exitHere ?_ | refine g_exitOn rfl ?_ | refine g_ret ?_ | refine g_thenRet ?_ | refine g_blockRet ?_ | refine g_passS rfl ?_ | refine g_pass0 ?_ | refine g_passU rfl ?_ | refine g_passUS rfl ?_ | refine g_storeV ?_ | refine g_build1 rfl rfl fun _ _ => ?_ | refine g_buildN rfl rfl fun _ _ => ?_ | refine g_make rfl (by omega) (by omega) fun _ _ => ?_)
  exact g_retV rfl rfl
end Go.Proofs.YtbmnkjaelfjlhaaDoor

