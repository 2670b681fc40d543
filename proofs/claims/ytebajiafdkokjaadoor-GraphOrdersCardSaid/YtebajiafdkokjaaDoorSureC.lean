/- dom.sure: for each block the table of the blocks that every way to an end meets. -/
import Derived.Test.YtebajiafdkokjaaDoorSureB
import Derived.Test.YtebajiafdkokjaaDoorHeld
import Derived.Test.YtebajiafdkokjaaDoorParts
namespace Go.Proofs.YtebajiafdkokjaaDoor
open Go Go.RowKit
attribute [local irreducible] wpListIn Code.wpIn Exit.then Exit.inBlock bodyPost wpQuiet wpAnyIn
set_option maxHeartbeats 4000000

def entM (n : Nat) (f : Nat → List Bool) (q : Nat × Nat) : Ent := Ent.vec (some ⟨q.1, 0, none⟩) n n 4 1 ((f q.2).map .bool)
theorem entM_get {n b p : Nat} {ps : List Nat} (h : ps[b]? = some p) (f : Nat → List Bool) : (ps.zipIdx.map (entM n f))[b]? = some (Ent.vec (some ⟨p, 0, none⟩) n n 4 1 ((f b).map .bool)) := by
  rw [List.getElem?_map, List.getElem?_zipIdx, h]
  simp [entM]
theorem entM_set {n b p : Nat} {ps : List Nat} (h : ps[b]? = some p) (f : Nat → List Bool) (l : List Bool) : (ps.zipIdx.map (entM n f)).set b (Ent.vec (some ⟨p, 0, none⟩) n n 4 1 (l.map .bool)) = ps.zipIdx.map (entM n (fun i => if i = b then l else f i)) := by
  apply List.ext_getElem?
  intro i
  rw [List.getElem?_set]
  have hlt : b < ps.length := (List.getElem?_eq_some_iff.1 h).1
  by_cases hib : b = i
  · subst hib
    rw [entM_get h]
    have h2 := (List.getElem?_eq_some_iff.1 h).2
    simp [hlt, entM, h2]
  · rw [if_neg hib]
    rw [List.getElem?_map, List.getElem?_map, List.getElem?_zipIdx]
    cases hp : ps[i]? with
    | none => simp
    | some q => simp [entM, Ne.symm hib]
open Classical in
noncomputable def rowTo (bl : List LBlock) (n b c : Nat) : List Bool := (List.range n).map fun d => decide (d < c ∧ Sure bl b d)
theorem rowTo_set {bl : List LBlock} {n b c : Nat} {v : Bool} (hc : c < n) (hv : v = true ↔ Sure bl b c) : (rowTo bl n b c).set c v = rowTo bl n b (c + 1) := by
  classical
  apply List.ext_getElem?
  intro d
  rw [List.getElem?_set]
  simp only [rowTo, List.length_map, List.length_range, List.getElem?_map]
  by_cases hd : c = d
  · subst hd
    simp only [if_true, hc, List.getElem?_range hc, Option.map_some]
    congr 1
    have : (c < c + 1 ∧ Sure bl b c) ↔ v = true := by rw [hv]; simp
    cases v
    · symm; rw [decide_eq_false_iff_not]; intro h; exact absurd (this.1 h) (by simp)
    · symm; rw [decide_eq_true_eq]; exact this.2 rfl
  · rw [if_neg hd]
    by_cases hdn : d < n
    · rw [List.getElem?_range hdn]
      simp only [Option.map_some, Option.some.injEq, decide_eq_decide]
      constructor
      · rintro ⟨h1, h2⟩; exact ⟨by omega, h2⟩
      · rintro ⟨h1, h2⟩; exact ⟨by omega, h2⟩
    · rw [List.getElem?_eq_none (by rw [List.length_range]; omega)]; rfl
theorem rowTo_get {bl : List LBlock} {n b c d : Nat} (hd : d < n) : ∃ y, (rowTo bl n b c)[d]? = some y := ⟨_, List.getElem?_eq_getElem (by simp [rowTo, hd])⟩
theorem rowTo_full {bl : List LBlock} {b : Nat} : rowTo bl bl.length b bl.length = sureRow bl b := by
  classical
  unfold rowTo sureRow
  apply List.map_congr_left
  intro d hd
  have : d < bl.length := by simpa using hd
  simp [this]
theorem rowTo_zero {bl : List LBlock} {n b : Nat} : rowTo bl n b 0 = List.replicate n false := by
  classical
  apply List.ext_getElem?
  intro d
  simp only [rowTo, List.getElem?_map, List.getElem?_replicate]
  by_cases hd : d < n
  · simp [hd]
  · rw [List.getElem?_eq_none (by rw [List.length_range]; omega)]; simp [hd]
/-- a table of rows of truth values, as one reads it -/
def tabB (bo n : Nat) (ps : List Nat) (f : Nat → List Bool) (w : World) : Prop := ∀ i p, ps[i]? = some p → w.cell? ⟨bo, i, none⟩ = some (valP n p) ∧ ∀ j v, (f i)[j]? = some v → w.cell? ⟨p, j, none⟩ = some (.bool v)
theorem sure_c (nm pa re : Value) (bl : List LBlock) (bs : Value) (w0 : World) (hbs : SlAt w0 bs 6 bl BlockV) (hlen : bl.length ≤ 100) (hok : GoodB bl) :
    Ret Tryd.prog 50 [.agg #[nm, pa, re, bs]] w0 fun u w' => ∃ x : Nat × (Nat → Prop) × List Nat, u = .slice (some ⟨x.1, 0, none⟩) bl.length bl.length ∧ Wd NoS w0 [⟨x.2.1, tabB x.1 bl.length x.2.2 (sureRow bl)⟩] w' ∧ x.2.2.length = bl.length := by
  classical
  have hbs0 := hbs
  obtain ⟨ba, n, bc, bb, bo', rfl, hn, hnc, hnb, hbc, hba, hel⟩ := hbs
  rw [← hn] at hlen ⊢
  refine ret_enter Tryd.func50 rfl Tryd.ntmps50 rfl (Wd.nil NoS w0) ?_
  repeat (first | refine g_op rfl ?_ | refine g_then ?_ | refine g_nil ?_ | refine g_region ?_ | refine g_seq ?_ | refine g_opS rfl ?_ | refine g_open ?_ | refine g_pass rfl ?_ | refine g_store ?_ | refine g_box rfl fun _ _ => ?_ | refine g_alloc rfl fun _ _ => ?_ | refine g_allocS rfl fun _ _ => ?_ | refine g_storeAgg ?_ | refine g_inBlock ?_ | refine g_block ?_ | refine g_skip ?_ | refine g_condT ?_ | refine g_condF ?_ | refine g_add rfl (by omega) (by omega) ?_ | refine g_sub rfl (by omega) (by omega) ?_ | refine g_exit ?_ | refine g_thenExit ?_ | refine g_exitHere ?_ | refine g_exitOn rfl ?_ | refine g_ret ?_ | refine g_thenRet ?_ | refine g_blockRet ?_ | refine g_passS rfl ?_ | refine g_pass0 ?_ | refine g_passU rfl ?_ | refine g_passUS rfl ?_ | refine g_storeV ?_ | refine g_build1 rfl rfl fun _ _ => ?_ | refine g_buildN rfl rfl fun _ _ => ?_ | refine g_make rfl (by omega) (by omega) fun _ _ => ?_)
  rename_i p1 _ po _
  refine g_callE (val := fun p : Nat => .slice (some ⟨p, 0, none⟩) bl.length bl.length) (E := fun p => [Ent.vec (some ⟨p, 0, none⟩) bl.length bl.length 4 1 ((endsOf bl (-1)).map .bool)]) (φ := fun _ => True) rfl (fun w hw => ends_c _ _ _ bl _ (-1) w (hbs0.keep keeps_block hw.chg) (by omega) hok) fun pal _ => ?_
  rw [← hn]
  simp only [List.cons_append, List.nil_append]
  repeat (first | refine g_op rfl ?_ | refine g_then ?_ | refine g_nil ?_ | refine g_region ?_ | refine g_seq ?_ | refine g_opS rfl ?_ | refine g_open ?_ | refine g_pass rfl ?_ | refine g_store ?_ | refine g_box rfl fun _ _ => ?_ | refine g_alloc rfl fun _ _ => ?_ | refine g_allocS rfl fun _ _ => ?_ | refine g_storeAgg ?_ | refine g_inBlock ?_ | refine g_block ?_ | refine g_skip ?_ | refine g_condT ?_ | refine g_condF ?_ | refine g_add rfl (by omega) (by omega) ?_ | refine g_sub rfl (by omega) (by omega) ?_ | refine g_exit ?_ | refine g_thenExit ?_ | refine g_exitHere ?_ | refine g_exitOn rfl ?_ | refine g_ret ?_ | refine g_thenRet ?_ | refine g_blockRet ?_ | refine g_passS rfl ?_ | refine g_pass0 ?_ | refine g_passU rfl ?_ | refine g_passUS rfl ?_ | refine g_storeV ?_ | refine g_build1 rfl rfl fun _ _ => ?_ | refine g_buildN rfl rfl fun _ _ => ?_ | refine g_make rfl (by omega) (by omega) fun _ _ => ?_)
  refine g_permH (List.Perm.swap _ _ _) ?_
  refine g_loop (fun (ps : List Nat) => ps.length ≤ n) (fun ps => [(17, .int .i64 ps.length), (16, .int .i64 n), (3, .slice (some ⟨po, 0, none⟩) n n), (4, .slice (some ⟨pal, 0, none⟩) n n), (1, .pointer (some ⟨p1, 0, none⟩))])
    (fun ps => Ent.vec (some ⟨po, 0, none⟩) n n 38 1 (ps.map (valP n) ++ List.replicate (n - ps.length) (.slice none 0 0)) :: Ent.vec (some ⟨pal, 0, none⟩) n n 4 1 ((endsOf bl (-1)).map .bool) :: Ent.box p1 [nm, pa, re, .slice ba n bc] 35 :: ps.zipIdx.map (entM n (fun i => rowTo bl n i 0)))
    (fun ps => n - ps.length) [] (Nat.zero_le _) (g_done (by repeat (first | exact trivial | refine ⟨rfl, ?_⟩)) (List.Sublist.refl _)) fun ps hps => ?_
  repeat (first | refine g_op rfl ?_ | refine g_then ?_ | refine g_nil ?_ | refine g_region ?_ | refine g_seq ?_ | refine g_opS rfl ?_ | refine g_open ?_ | refine g_pass rfl ?_ | refine g_store ?_ | refine g_box rfl fun _ _ => ?_ | refine g_alloc rfl fun _ _ => ?_ | refine g_allocS rfl fun _ _ => ?_ | refine g_storeAgg ?_ | refine g_inBlock ?_ | refine g_block ?_ | refine g_skip ?_ | refine g_condT ?_ | refine g_condF ?_ | refine g_add rfl (by omega) (by omega) ?_ | refine g_sub rfl (by omega) (by omega) ?_ | refine g_exit ?_ | refine g_thenExit ?_ | refine g_exitHere ?_ | refine g_exitOn rfl ?_ | refine g_ret ?_ | refine g_thenRet ?_ | refine g_blockRet ?_ | refine g_passS rfl ?_ | refine g_pass0 ?_ | refine g_passU rfl ?_ | refine g_passUS rfl ?_ | refine g_storeV ?_ | refine g_build1 rfl rfl fun _ _ => ?_ | refine g_buildN rfl rfl fun _ _ => ?_ | refine g_make rfl (by omega) (by omega) fun _ _ => ?_)
  refine g_cond (fun h1 => ?_) (fun h1 => ?_)
  · have hlt : ps.length < n := by simpa using h1
    have hli : LtIs ps.length n := ⟨hlt⟩
    repeat (first | refine g_op rfl ?_ | refine g_then ?_ | refine g_nil ?_ | refine g_region ?_ | refine g_seq ?_ | refine g_opS rfl ?_ | refine g_open ?_ | refine g_pass rfl ?_ | refine g_store ?_ | refine g_box rfl fun _ _ => ?_ | refine g_alloc rfl fun _ _ => ?_ | refine g_allocS rfl fun _ _ => ?_ | refine g_storeAgg ?_ | refine g_inBlock ?_ | refine g_block ?_ | refine g_skip ?_ | refine g_condT ?_ | refine g_condF ?_ | refine g_add rfl (by omega) (by omega) ?_ | refine g_sub rfl (by omega) (by omega) ?_ | refine g_exit ?_ | refine g_thenExit ?_ | refine g_exitHere ?_ | refine g_exitOn rfl ?_ | refine g_ret ?_ | refine g_thenRet ?_ | refine g_blockRet ?_ | refine g_passS rfl ?_ | refine g_pass0 ?_ | refine g_passU rfl ?_ | refine g_passUS rfl ?_ | refine g_storeV ?_ | refine g_build1 rfl rfl fun _ _ => ?_ | refine g_buildN rfl rfl fun _ _ => ?_ | refine g_make rfl (by omega) (by omega) fun _ _ => ?_)
    rename_i pn _
    have hxs : XSet (ps.map (valP n) ++ List.replicate (n - ps.length) (.slice none 0 0)) (ps.length * 1) (.slice (some ⟨pn, 0, none⟩) n n) ((ps ++ [pn]).map (valP n) ++ List.replicate (n - (ps ++ [pn]).length) (.slice none 0 0)) := by
      refine ⟨?_, by simp; omega⟩
      rw [Nat.mul_one, List.set_append_right _ _ (by simp)]
      obtain ⟨m, hm⟩ : ∃ m, n - ps.length = m + 1 := ⟨n - ps.length - 1, by omega⟩
      have hm2 : n - (ps ++ [pn]).length = m := by simp; omega
      rw [hm, hm2]
      simp [List.replicate_succ, valP]
    repeat (first | refine g_op rfl ?_ | refine g_then ?_ | refine g_nil ?_ | refine g_region ?_ | refine g_seq ?_ | refine g_opS rfl ?_ | refine g_open ?_ | refine g_pass rfl ?_ | refine g_store ?_ | refine g_box rfl fun _ _ => ?_ | refine g_alloc rfl fun _ _ => ?_ | refine g_allocS rfl fun _ _ => ?_ | refine g_storeAgg ?_ | refine g_inBlock ?_ | refine g_block ?_ | refine g_skip ?_ | refine g_condT ?_ | refine g_condF ?_ | refine g_add rfl (by omega) (by omega) ?_ | refine g_sub rfl (by omega) (by omega) ?_ | refine g_exit ?_ | refine g_thenExit ?_ | refine g_exitHere ?_ | refine g_exitOn rfl ?_ | refine g_ret ?_ | refine g_thenRet ?_ | refine g_blockRet ?_ | refine g_passS rfl ?_ | refine g_pass0 ?_ | refine g_passU rfl ?_ | refine g_passUS rfl ?_ | refine g_storeV ?_ | refine g_build1 rfl rfl fun _ _ => ?_ | refine g_buildN rfl rfl fun _ _ => ?_ | refine g_make rfl (by omega) (by omega) fun _ _ => ?_)
    refine g_permH (List.perm_append_singleton _ _).symm ?_
    refine g_next (ps ++ [pn]) (by simp; omega) (by simp; omega) ?_ ?_
    · simp only [List.length_append, List.length_singleton, Int.natCast_add]
      exact (by repeat (first | exact trivial | refine ⟨rfl, ?_⟩))
    · have : (ps ++ [pn]).zipIdx.map (entM n (fun i => rowTo bl n i 0)) = ps.zipIdx.map (entM n (fun i => rowTo bl n i 0)) ++ [Ent.vec (some ⟨pn, 0, none⟩) n n 4 1 (List.replicate n (.bool false))] := by
        simp [List.zipIdx_append, entM, rowTo_zero]
      rw [this]
      exact List.Sublist.refl _
  have hge : ps.length = n := by have := h1; simp at this; omega
  rw [show n - ps.length = 0 by omega, List.replicate_zero, List.append_nil]
  have rowP : ∀ d, d < n → ∃ pd, ps[d]? = some pd := fun d hd => ⟨_, List.getElem?_eq_getElem (by omega)⟩
  repeat (first | refine g_op rfl ?_ | refine g_then ?_ | refine g_nil ?_ | refine g_region ?_ | refine g_seq ?_ | refine g_opS rfl ?_ | refine g_open ?_ | refine g_pass rfl ?_ | refine g_store ?_ | refine g_box rfl fun _ _ => ?_ | refine g_alloc rfl fun _ _ => ?_ | refine g_allocS rfl fun _ _ => ?_ | refine g_storeAgg ?_ | refine g_inBlock ?_ | refine g_block ?_ | refine g_skip ?_ | refine g_condT ?_ | refine g_condF ?_ | refine g_add rfl (by omega) (by omega) ?_ | refine g_sub rfl (by omega) (by omega) ?_ | refine g_exit ?_ | refine g_thenExit ?_ | refine g_exitHere ?_ | refine g_exitOn rfl ?_ | refine g_ret ?_ | refine g_thenRet ?_ | refine g_blockRet ?_ | refine g_passS rfl ?_ | refine g_pass0 ?_ | refine g_passU rfl ?_ | refine g_passUS rfl ?_ | refine g_storeV ?_ | refine g_build1 rfl rfl fun _ _ => ?_ | refine g_buildN rfl rfl fun _ _ => ?_ | refine g_make rfl (by omega) (by omega) fun _ _ => ?_)
  refine g_loop (fun (c : Nat) => c ≤ n) (fun c => [(31, .int .i64 c), (30, .int .i64 n), (3, .slice (some ⟨po, 0, none⟩) n n), (4, .slice (some ⟨pal, 0, none⟩) n n), (1, .pointer (some ⟨p1, 0, none⟩))])
    (fun c => Ent.vec (some ⟨po, 0, none⟩) n n 38 1 (ps.map (valP n)) :: Ent.vec (some ⟨pal, 0, none⟩) n n 4 1 ((endsOf bl (-1)).map .bool) :: Ent.box p1 [nm, pa, re, .slice ba n bc] 35 :: ps.zipIdx.map (entM n (fun i => rowTo bl n i c)))
    (fun c => n - c) 0 (Nat.zero_le _) (g_done (by repeat (first | exact trivial | refine ⟨rfl, ?_⟩)) (List.Sublist.refl _)) fun c hc => ?_
  repeat (first | refine g_op rfl ?_ | refine g_then ?_ | refine g_nil ?_ | refine g_region ?_ | refine g_seq ?_ | refine g_opS rfl ?_ | refine g_open ?_ | refine g_pass rfl ?_ | refine g_store ?_ | refine g_box rfl fun _ _ => ?_ | refine g_alloc rfl fun _ _ => ?_ | refine g_allocS rfl fun _ _ => ?_ | refine g_storeAgg ?_ | refine g_inBlock ?_ | refine g_block ?_ | refine g_skip ?_ | refine g_condT ?_ | refine g_condF ?_ | refine g_add rfl (by omega) (by omega) ?_ | refine g_sub rfl (by omega) (by omega) ?_ | refine g_exit ?_ | refine g_thenExit ?_ | refine g_exitHere ?_ | refine g_exitOn rfl ?_ | refine g_ret ?_ | refine g_thenRet ?_ | refine g_blockRet ?_ | refine g_passS rfl ?_ | refine g_pass0 ?_ | refine g_passU rfl ?_ | refine g_passUS rfl ?_ | refine g_storeV ?_ | refine g_build1 rfl rfl fun _ _ => ?_ | refine g_buildN rfl rfl fun _ _ => ?_ | refine g_make rfl (by omega) (by omega) fun _ _ => ?_)
  refine g_cond (fun h2 => ?_) (fun h2 => ?_)
  · have hcn : c < n := by simpa using h2
    repeat (first | refine g_op rfl ?_ | refine g_then ?_ | refine g_nil ?_ | refine g_region ?_ | refine g_seq ?_ | refine g_opS rfl ?_ | refine g_open ?_ | refine g_pass rfl ?_ | refine g_store ?_ | refine g_box rfl fun _ _ => ?_ | refine g_alloc rfl fun _ _ => ?_ | refine g_allocS rfl fun _ _ => ?_ | refine g_storeAgg ?_ | refine g_inBlock ?_ | refine g_block ?_ | refine g_skip ?_ | refine g_condT ?_ | refine g_condF ?_ | refine g_add rfl (by omega) (by omega) ?_ | refine g_sub rfl (by omega) (by omega) ?_ | refine g_exit ?_ | refine g_thenExit ?_ | refine g_exitHere ?_ | refine g_exitOn rfl ?_ | refine g_ret ?_ | refine g_thenRet ?_ | refine g_blockRet ?_ | refine g_passS rfl ?_ | refine g_pass0 ?_ | refine g_passU rfl ?_ | refine g_passUS rfl ?_ | refine g_storeV ?_ | refine g_build1 rfl rfl fun _ _ => ?_ | refine g_buildN rfl rfl fun _ _ => ?_ | refine g_make rfl (by omega) (by omega) fun _ _ => ?_)
    refine g_callE (val := fun p : Nat => .slice (some ⟨p, 0, none⟩) bl.length bl.length) (E := fun p => [Ent.vec (some ⟨p, 0, none⟩) bl.length bl.length 4 1 ((endsOf bl c).map .bool)]) (φ := fun _ => True) rfl (fun w hw => ends_c _ _ _ bl _ c w (hbs0.keep keeps_block hw.chg) (by omega) hok) fun pw _ => ?_
    rw [← hn]
    simp only [List.cons_append, List.nil_append]
    repeat (first | refine g_op rfl ?_ | refine g_then ?_ | refine g_nil ?_ | refine g_region ?_ | refine g_seq ?_ | refine g_opS rfl ?_ | refine g_open ?_ | refine g_pass rfl ?_ | refine g_store ?_ | refine g_box rfl fun _ _ => ?_ | refine g_alloc rfl fun _ _ => ?_ | refine g_allocS rfl fun _ _ => ?_ | refine g_storeAgg ?_ | refine g_inBlock ?_ | refine g_block ?_ | refine g_skip ?_ | refine g_condT ?_ | refine g_condF ?_ | refine g_add rfl (by omega) (by omega) ?_ | refine g_sub rfl (by omega) (by omega) ?_ | refine g_exit ?_ | refine g_thenExit ?_ | refine g_exitHere ?_ | refine g_exitOn rfl ?_ | refine g_ret ?_ | refine g_thenRet ?_ | refine g_blockRet ?_ | refine g_passS rfl ?_ | refine g_pass0 ?_ | refine g_passU rfl ?_ | refine g_passUS rfl ?_ | refine g_storeV ?_ | refine g_build1 rfl rfl fun _ _ => ?_ | refine g_buildN rfl rfl fun _ _ => ?_ | refine g_make rfl (by omega) (by omega) fun _ _ => ?_)
    refine g_loop (fun (b : Nat) => b ≤ n) (fun b => [(40, .int .i64 b), (39, .int .i64 n), (7, .slice (some ⟨pw, 0, none⟩) n n), (6, .int .i64 c), (31, .int .i64 c), (30, .int .i64 n), (3, .slice (some ⟨po, 0, none⟩) n n), (4, .slice (some ⟨pal, 0, none⟩) n n), (1, .pointer (some ⟨p1, 0, none⟩))])
      (fun b => Ent.vec (some ⟨pw, 0, none⟩) n n 4 1 ((endsOf bl c).map .bool) :: Ent.vec (some ⟨po, 0, none⟩) n n 38 1 (ps.map (valP n)) :: Ent.vec (some ⟨pal, 0, none⟩) n n 4 1 ((endsOf bl (-1)).map .bool) :: Ent.box p1 [nm, pa, re, .slice ba n bc] 35 :: ps.zipIdx.map (entM n (fun i => rowTo bl n i (if i < b then c + 1 else c))))
      (fun b => n - b) 0 (Nat.zero_le _) (g_done (by repeat (first | exact trivial | refine ⟨rfl, ?_⟩)) (by simp)) fun b hb => ?_
    repeat (first | refine g_op rfl ?_ | refine g_then ?_ | refine g_nil ?_ | refine g_region ?_ | refine g_seq ?_ | refine g_opS rfl ?_ | refine g_open ?_ | refine g_pass rfl ?_ | refine g_store ?_ | refine g_box rfl fun _ _ => ?_ | refine g_alloc rfl fun _ _ => ?_ | refine g_allocS rfl fun _ _ => ?_ | refine g_storeAgg ?_ | refine g_inBlock ?_ | refine g_block ?_ | refine g_skip ?_ | refine g_condT ?_ | refine g_condF ?_ | refine g_add rfl (by omega) (by omega) ?_ | refine g_sub rfl (by omega) (by omega) ?_ | refine g_exit ?_ | refine g_thenExit ?_ | refine g_exitHere ?_ | refine g_exitOn rfl ?_ | refine g_ret ?_ | refine g_thenRet ?_ | refine g_blockRet ?_ | refine g_passS rfl ?_ | refine g_pass0 ?_ | refine g_passU rfl ?_ | refine g_passUS rfl ?_ | refine g_storeV ?_ | refine g_build1 rfl rfl fun _ _ => ?_ | refine g_buildN rfl rfl fun _ _ => ?_ | refine g_make rfl (by omega) (by omega) fun _ _ => ?_)
    refine g_cond (fun h3 => ?_) (fun h3 => ?_)
    · have hbn : b < n := by simpa using h3
      obtain ⟨pb, hpb⟩ := rowP b hbn
      have hlb : LtIs b n := ⟨hbn⟩
      have hlc : LtIs c n := ⟨hcn⟩
      have hxa : XAt (ps.map (valP n)) (b * 1) (.slice (some ⟨pb, 0, none⟩) n n) := ⟨by simp [hpb, valP]⟩
      obtain ⟨av, hav⟩ : ∃ av, (endsOf bl (-1))[b]? = some av := ⟨_, endsOf_get (by omega)⟩
      obtain ⟨wv, hwv⟩ : ∃ wv, (endsOf bl c)[b]? = some wv := ⟨_, endsOf_get (by omega)⟩
      have hea : ElAt (endsOf bl (-1)) b av := ⟨hav⟩
      have hew : ElAt (endsOf bl c) b wv := ⟨hwv⟩
      rw [endsOf_get (by omega)] at hav hwv
      simp only [Option.some.injEq] at hav hwv
      obtain ⟨y, hy⟩ := rowTo_get (bl := bl) (b := b) (c := c) hcn
      have hey : ElAt (rowTo bl n b c) c y := ⟨hy⟩
      have hoa : OwnAt (ps.zipIdx.map (entM n (fun i => rowTo bl n i (if i < b then c + 1 else c)))) pb (0 + c * 1) b 0 (c * 1) n n 4 1 ((rowTo bl n b c).map .bool) := ⟨by rw [entM_get hpb]; simp, rfl⟩
      have hset : ∀ v : Bool, (v = true ↔ Sure bl b c) → SetAt (ps.zipIdx.map (entM n (fun i => rowTo bl n i (if i < b then c + 1 else c)))) b (Ent.vec (some ⟨pb, 0, none⟩) n n 4 1 (((rowTo bl n b c).set c v).map .bool)) (ps.zipIdx.map (entM n (fun i => rowTo bl n i (if i < b + 1 then c + 1 else c)))) := by
        intro v hv
        refine ⟨?_⟩
        rw [entM_set hpb, rowTo_set hcn hv]
        congr 2
        funext i
        by_cases hib : i = b
        · subst hib; simp
        · rw [if_neg hib]
          congr 1
          by_cases h : i < b
          · rw [if_pos h, if_pos (by omega)]
          · rw [if_neg h, if_neg (by omega)]
      repeat (first | refine g_op rfl ?_ | refine g_then ?_ | refine g_nil ?_ | refine g_region ?_ | refine g_seq ?_ | refine g_opS rfl ?_ | refine g_open ?_ | refine g_pass rfl ?_ | refine g_store ?_ | refine g_box rfl fun _ _ => ?_ | refine g_alloc rfl fun _ _ => ?_ | refine g_allocS rfl fun _ _ => ?_ | refine g_storeAgg ?_ | refine g_inBlock ?_ | refine g_block ?_ | refine g_skip ?_ | refine g_condT ?_ | refine g_condF ?_ | refine g_add rfl (by omega) (by omega) ?_ | refine g_sub rfl (by omega) (by omega) ?_ | refine g_exit ?_ | refine g_thenExit ?_ | refine g_exitHere ?_ | refine g_exitOn rfl ?_ | refine g_ret ?_ | refine g_thenRet ?_ | refine g_blockRet ?_ | refine g_passS rfl ?_ | refine g_pass0 ?_ | refine g_passU rfl ?_ | refine g_passUS rfl ?_ | refine g_storeV ?_ | refine g_build1 rfl rfl fun _ _ => ?_ | refine g_buildN rfl rfl fun _ _ => ?_ | refine g_make rfl (by omega) (by omega) fun _ _ => ?_)
      have hsub : ∀ T : List Ent, List.Sublist [Ent.vec (some ⟨pw, 0, none⟩) n n 4 1 ((endsOf bl c).map .bool), Ent.vec (some ⟨po, 0, none⟩) n n 38 1 (ps.map (valP n)), Ent.vec (some ⟨pal, 0, none⟩) n n 4 1 ((endsOf bl (-1)).map .bool), Ent.box p1 [nm, pa, re, .slice ba n bc] 35] (Ent.vec (some ⟨pw, 0, none⟩) n n 4 1 ((endsOf bl c).map .bool) :: Ent.vec (some ⟨po, 0, none⟩) n n 38 1 (ps.map (valP n)) :: Ent.vec (some ⟨pal, 0, none⟩) n n 4 1 ((endsOf bl (-1)).map .bool) :: Ent.box p1 [nm, pa, re, .slice ba n bc] 35 :: T) := fun T => List.sublist_append_left [_, _, _, _] T
      cases av
      · have hs := hset false (by simp only [Sure, reduceCtorEq, false_iff]; intro h; exact absurd h.1 (by simpa using hav))
        refine g_drawH [Ent.vec (some ⟨pw, 0, none⟩) n n 4 1 ((endsOf bl c).map .bool), Ent.vec (some ⟨po, 0, none⟩) n n 38 1 (ps.map (valP n)), Ent.vec (some ⟨pal, 0, none⟩) n n 4 1 ((endsOf bl (-1)).map .bool), Ent.box p1 [nm, pa, re, .slice ba n bc] 35] mixed (hsub _) ?_
        (first | refine h_take 0 rfl (by decide +kernel) (hsub _) ?_ | refine h_takeG 0 rfl (by decide +kernel) (hsub _) ?_ | refine h_takeP 0 rfl (by decide +kernel) (hsub _) ?_)
        (first | refine h_take 1 rfl (by decide +kernel) (hsub _) ?_ | refine h_takeG 1 rfl (by decide +kernel) (hsub _) ?_ | refine h_takeP 1 rfl (by decide +kernel) (hsub _) ?_)
        (first | refine h_take 2 rfl (by decide +kernel) (hsub _) ?_ | refine h_takeG 2 rfl (by decide +kernel) (hsub _) ?_ | refine h_takeP 2 rfl (by decide +kernel) (hsub _) ?_)
        (first | refine h_take 3 rfl (by decide +kernel) (hsub _) ?_ | refine h_takeG 3 rfl (by decide +kernel) (hsub _) ?_ | refine h_takeP 3 rfl (by decide +kernel) (hsub _) ?_)
        (first | refine h_take 4 rfl (by decide +kernel) (hsub _) ?_ | refine h_takeG 4 rfl (by decide +kernel) (hsub _) ?_ | refine h_takeP 4 rfl (by decide +kernel) (hsub _) ?_)
        (first | refine h_take 5 rfl (by decide +kernel) (hsub _) ?_ | refine h_takeG 5 rfl (by decide +kernel) (hsub _) ?_ | refine h_takeP 5 rfl (by decide +kernel) (hsub _) ?_)
        (first | refine h_take 6 rfl (by decide +kernel) (hsub _) ?_ | refine h_takeG 6 rfl (by decide +kernel) (hsub _) ?_ | refine h_takeP 6 rfl (by decide +kernel) (hsub _) ?_)
        (first | refine h_take 7 rfl (by decide +kernel) (hsub _) ?_ | refine h_takeG 7 rfl (by decide +kernel) (hsub _) ?_ | refine h_takeP 7 rfl (by decide +kernel) (hsub _) ?_)
        (first | refine h_take 8 rfl (by decide +kernel) (hsub _) ?_ | refine h_takeG 8 rfl (by decide +kernel) (hsub _) ?_ | refine h_takeP 8 rfl (by decide +kernel) (hsub _) ?_)
        (first | refine h_take 9 rfl (by decide +kernel) (hsub _) ?_ | refine h_takeG 9 rfl (by decide +kernel) (hsub _) ?_ | refine h_takeP 9 rfl (by decide +kernel) (hsub _) ?_)
        (first | refine h_take 10 rfl (by decide +kernel) (hsub _) ?_ | refine h_takeG 10 rfl (by decide +kernel) (hsub _) ?_ | refine h_takeP 10 rfl (by decide +kernel) (hsub _) ?_)
        (first | refine h_take 11 rfl (by decide +kernel) (hsub _) ?_ | refine h_takeG 11 rfl (by decide +kernel) (hsub _) ?_ | refine h_takeP 11 rfl (by decide +kernel) (hsub _) ?_)
        (first | refine h_take 12 rfl (by decide +kernel) (hsub _) ?_ | refine h_takeG 12 rfl (by decide +kernel) (hsub _) ?_ | refine h_takeP 12 rfl (by decide +kernel) (hsub _) ?_)
        (first | refine h_take 13 rfl (by decide +kernel) (hsub _) ?_ | refine h_takeG 13 rfl (by decide +kernel) (hsub _) ?_ | refine h_takeP 13 rfl (by decide +kernel) (hsub _) ?_)
        (first | refine h_take 14 rfl (by decide +kernel) (hsub _) ?_ | refine h_takeG 14 rfl (by decide +kernel) (hsub _) ?_ | refine h_takeP 14 rfl (by decide +kernel) (hsub _) ?_)
        (first | refine h_take 15 rfl (by decide +kernel) (hsub _) ?_ | refine h_takeG 15 rfl (by decide +kernel) (hsub _) ?_ | refine h_takeP 15 rfl (by decide +kernel) (hsub _) ?_)
        (first | refine h_take 16 rfl (by decide +kernel) (hsub _) ?_ | refine h_takeG 16 rfl (by decide +kernel) (hsub _) ?_ | refine h_takeP 16 rfl (by decide +kernel) (hsub _) ?_)
        refine h_storeV 17 (by decide +kernel) (by decide +kernel) (hsub _) ?_
        repeat (first | refine g_op rfl ?_ | refine g_then ?_ | refine g_nil ?_ | refine g_region ?_ | refine g_seq ?_ | refine g_opS rfl ?_ | refine g_open ?_ | refine g_pass rfl ?_ | refine g_store ?_ | refine g_box rfl fun _ _ => ?_ | refine g_alloc rfl fun _ _ => ?_ | refine g_allocS rfl fun _ _ => ?_ | refine g_storeAgg ?_ | refine g_inBlock ?_ | refine g_block ?_ | refine g_skip ?_ | refine g_condT ?_ | refine g_condF ?_ | refine g_add rfl (by omega) (by omega) ?_ | refine g_sub rfl (by omega) (by omega) ?_ | refine g_exit ?_ | refine g_thenExit ?_ | refine g_exitHere ?_ | refine g_exitOn rfl ?_ | refine g_ret ?_ | refine g_thenRet ?_ | refine g_blockRet ?_ | refine g_passS rfl ?_ | refine g_pass0 ?_ | refine g_passU rfl ?_ | refine g_passUS rfl ?_ | refine g_storeV ?_ | refine g_build1 rfl rfl fun _ _ => ?_ | refine g_buildN rfl rfl fun _ _ => ?_ | refine g_make rfl (by omega) (by omega) fun _ _ => ?_)
        exact g_next (b + 1) hbn (by omega) (by repeat (first | exact trivial | refine ⟨rfl, ?_⟩)) (List.Sublist.refl _)
      · cases wv
        · have hs := hset true (by simp only [Sure, true_iff]; exact ⟨by simpa using hav, by simpa using hwv⟩)
          refine g_drawH [Ent.vec (some ⟨pw, 0, none⟩) n n 4 1 ((endsOf bl c).map .bool), Ent.vec (some ⟨po, 0, none⟩) n n 38 1 (ps.map (valP n)), Ent.vec (some ⟨pal, 0, none⟩) n n 4 1 ((endsOf bl (-1)).map .bool), Ent.box p1 [nm, pa, re, .slice ba n bc] 35] mixed (hsub _) ?_
          (first | refine h_take 0 rfl (by decide +kernel) (hsub _) ?_ | refine h_takeG 0 rfl (by decide +kernel) (hsub _) ?_ | refine h_takeP 0 rfl (by decide +kernel) (hsub _) ?_)
          (first | refine h_take 1 rfl (by decide +kernel) (hsub _) ?_ | refine h_takeG 1 rfl (by decide +kernel) (hsub _) ?_ | refine h_takeP 1 rfl (by decide +kernel) (hsub _) ?_)
          (first | refine h_take 2 rfl (by decide +kernel) (hsub _) ?_ | refine h_takeG 2 rfl (by decide +kernel) (hsub _) ?_ | refine h_takeP 2 rfl (by decide +kernel) (hsub _) ?_)
          (first | refine h_take 3 rfl (by decide +kernel) (hsub _) ?_ | refine h_takeG 3 rfl (by decide +kernel) (hsub _) ?_ | refine h_takeP 3 rfl (by decide +kernel) (hsub _) ?_)
          (first | refine h_take 4 rfl (by decide +kernel) (hsub _) ?_ | refine h_takeG 4 rfl (by decide +kernel) (hsub _) ?_ | refine h_takeP 4 rfl (by decide +kernel) (hsub _) ?_)
          (first | refine h_take 5 rfl (by decide +kernel) (hsub _) ?_ | refine h_takeG 5 rfl (by decide +kernel) (hsub _) ?_ | refine h_takeP 5 rfl (by decide +kernel) (hsub _) ?_)
          (first | refine h_take 6 rfl (by decide +kernel) (hsub _) ?_ | refine h_takeG 6 rfl (by decide +kernel) (hsub _) ?_ | refine h_takeP 6 rfl (by decide +kernel) (hsub _) ?_)
          (first | refine h_take 7 rfl (by decide +kernel) (hsub _) ?_ | refine h_takeG 7 rfl (by decide +kernel) (hsub _) ?_ | refine h_takeP 7 rfl (by decide +kernel) (hsub _) ?_)
          (first | refine h_take 8 rfl (by decide +kernel) (hsub _) ?_ | refine h_takeG 8 rfl (by decide +kernel) (hsub _) ?_ | refine h_takeP 8 rfl (by decide +kernel) (hsub _) ?_)
          (first | refine h_take 9 rfl (by decide +kernel) (hsub _) ?_ | refine h_takeG 9 rfl (by decide +kernel) (hsub _) ?_ | refine h_takeP 9 rfl (by decide +kernel) (hsub _) ?_)
          (first | refine h_take 10 rfl (by decide +kernel) (hsub _) ?_ | refine h_takeG 10 rfl (by decide +kernel) (hsub _) ?_ | refine h_takeP 10 rfl (by decide +kernel) (hsub _) ?_)
          (first | refine h_take 11 rfl (by decide +kernel) (hsub _) ?_ | refine h_takeG 11 rfl (by decide +kernel) (hsub _) ?_ | refine h_takeP 11 rfl (by decide +kernel) (hsub _) ?_)
          (first | refine h_take 12 rfl (by decide +kernel) (hsub _) ?_ | refine h_takeG 12 rfl (by decide +kernel) (hsub _) ?_ | refine h_takeP 12 rfl (by decide +kernel) (hsub _) ?_)
          (first | refine h_take 13 rfl (by decide +kernel) (hsub _) ?_ | refine h_takeG 13 rfl (by decide +kernel) (hsub _) ?_ | refine h_takeP 13 rfl (by decide +kernel) (hsub _) ?_)
          (first | refine h_take 14 rfl (by decide +kernel) (hsub _) ?_ | refine h_takeG 14 rfl (by decide +kernel) (hsub _) ?_ | refine h_takeP 14 rfl (by decide +kernel) (hsub _) ?_)
          (first | refine h_take 15 rfl (by decide +kernel) (hsub _) ?_ | refine h_takeG 15 rfl (by decide +kernel) (hsub _) ?_ | refine h_takeP 15 rfl (by decide +kernel) (hsub _) ?_)
          (first | refine h_take 16 rfl (by decide +kernel) (hsub _) ?_ | refine h_takeG 16 rfl (by decide +kernel) (hsub _) ?_ | refine h_takeP 16 rfl (by decide +kernel) (hsub _) ?_)
          refine h_storeV 17 (by decide +kernel) (by decide +kernel) (hsub _) ?_
          repeat (first | refine g_op rfl ?_ | refine g_then ?_ | refine g_nil ?_ | refine g_region ?_ | refine g_seq ?_ | refine g_opS rfl ?_ | refine g_open ?_ | refine g_pass rfl ?_ | refine g_store ?_ | refine g_box rfl fun _ _ => ?_ | refine g_alloc rfl fun _ _ => ?_ | refine g_allocS rfl fun _ _ => ?_ | refine g_storeAgg ?_ | refine g_inBlock ?_ | refine g_block ?_ | refine g_skip ?_ | refine g_condT ?_ | refine g_condF ?_ | refine g_add rfl (by omega) (by omega) ?_ | refine g_sub rfl (by omega) (by omega) ?_ | refine g_exit ?_ | refine g_thenExit ?_ | refine g_exitHere ?_ | refine g_exitOn rfl ?_ | refine g_ret ?_ | refine g_thenRet ?_ | refine g_blockRet ?_ | refine g_passS rfl ?_ | refine g_pass0 ?_ | refine g_passU rfl ?_ | refine g_passUS rfl ?_ | refine g_storeV ?_ | refine g_build1 rfl rfl fun _ _ => ?_ | refine g_buildN rfl rfl fun _ _ => ?_ | refine g_make rfl (by omega) (by omega) fun _ _ => ?_)
          exact g_next (b + 1) hbn (by omega) (by repeat (first | exact trivial | refine ⟨rfl, ?_⟩)) (List.Sublist.refl _)
        · have hs := hset false (by simp only [Sure, reduceCtorEq, false_iff]; intro h; exact h.2 (by simpa using hwv))
          refine g_drawH [Ent.vec (some ⟨pw, 0, none⟩) n n 4 1 ((endsOf bl c).map .bool), Ent.vec (some ⟨po, 0, none⟩) n n 38 1 (ps.map (valP n)), Ent.vec (some ⟨pal, 0, none⟩) n n 4 1 ((endsOf bl (-1)).map .bool), Ent.box p1 [nm, pa, re, .slice ba n bc] 35] mixed (hsub _) ?_
          (first | refine h_take 0 rfl (by decide +kernel) (hsub _) ?_ | refine h_takeG 0 rfl (by decide +kernel) (hsub _) ?_ | refine h_takeP 0 rfl (by decide +kernel) (hsub _) ?_)
          (first | refine h_take 1 rfl (by decide +kernel) (hsub _) ?_ | refine h_takeG 1 rfl (by decide +kernel) (hsub _) ?_ | refine h_takeP 1 rfl (by decide +kernel) (hsub _) ?_)
          (first | refine h_take 2 rfl (by decide +kernel) (hsub _) ?_ | refine h_takeG 2 rfl (by decide +kernel) (hsub _) ?_ | refine h_takeP 2 rfl (by decide +kernel) (hsub _) ?_)
          (first | refine h_take 3 rfl (by decide +kernel) (hsub _) ?_ | refine h_takeG 3 rfl (by decide +kernel) (hsub _) ?_ | refine h_takeP 3 rfl (by decide +kernel) (hsub _) ?_)
          (first | refine h_take 4 rfl (by decide +kernel) (hsub _) ?_ | refine h_takeG 4 rfl (by decide +kernel) (hsub _) ?_ | refine h_takeP 4 rfl (by decide +kernel) (hsub _) ?_)
          (first | refine h_take 5 rfl (by decide +kernel) (hsub _) ?_ | refine h_takeG 5 rfl (by decide +kernel) (hsub _) ?_ | refine h_takeP 5 rfl (by decide +kernel) (hsub _) ?_)
          (first | refine h_take 6 rfl (by decide +kernel) (hsub _) ?_ | refine h_takeG 6 rfl (by decide +kernel) (hsub _) ?_ | refine h_takeP 6 rfl (by decide +kernel) (hsub _) ?_)
          (first | refine h_take 7 rfl (by decide +kernel) (hsub _) ?_ | refine h_takeG 7 rfl (by decide +kernel) (hsub _) ?_ | refine h_takeP 7 rfl (by decide +kernel) (hsub _) ?_)
          (first | refine h_take 8 rfl (by decide +kernel) (hsub _) ?_ | refine h_takeG 8 rfl (by decide +kernel) (hsub _) ?_ | refine h_takeP 8 rfl (by decide +kernel) (hsub _) ?_)
          (first | refine h_take 9 rfl (by decide +kernel) (hsub _) ?_ | refine h_takeG 9 rfl (by decide +kernel) (hsub _) ?_ | refine h_takeP 9 rfl (by decide +kernel) (hsub _) ?_)
          (first | refine h_take 10 rfl (by decide +kernel) (hsub _) ?_ | refine h_takeG 10 rfl (by decide +kernel) (hsub _) ?_ | refine h_takeP 10 rfl (by decide +kernel) (hsub _) ?_)
          (first | refine h_take 11 rfl (by decide +kernel) (hsub _) ?_ | refine h_takeG 11 rfl (by decide +kernel) (hsub _) ?_ | refine h_takeP 11 rfl (by decide +kernel) (hsub _) ?_)
          (first | refine h_take 12 rfl (by decide +kernel) (hsub _) ?_ | refine h_takeG 12 rfl (by decide +kernel) (hsub _) ?_ | refine h_takeP 12 rfl (by decide +kernel) (hsub _) ?_)
          (first | refine h_take 13 rfl (by decide +kernel) (hsub _) ?_ | refine h_takeG 13 rfl (by decide +kernel) (hsub _) ?_ | refine h_takeP 13 rfl (by decide +kernel) (hsub _) ?_)
          (first | refine h_take 14 rfl (by decide +kernel) (hsub _) ?_ | refine h_takeG 14 rfl (by decide +kernel) (hsub _) ?_ | refine h_takeP 14 rfl (by decide +kernel) (hsub _) ?_)
          (first | refine h_take 15 rfl (by decide +kernel) (hsub _) ?_ | refine h_takeG 15 rfl (by decide +kernel) (hsub _) ?_ | refine h_takeP 15 rfl (by decide +kernel) (hsub _) ?_)
          (first | refine h_take 16 rfl (by decide +kernel) (hsub _) ?_ | refine h_takeG 16 rfl (by decide +kernel) (hsub _) ?_ | refine h_takeP 16 rfl (by decide +kernel) (hsub _) ?_)
          refine h_storeV 17 (by decide +kernel) (by decide +kernel) (hsub _) ?_
          repeat (first | refine g_op rfl ?_ | refine g_then ?_ | refine g_nil ?_ | refine g_region ?_ | refine g_seq ?_ | refine g_opS rfl ?_ | refine g_open ?_ | refine g_pass rfl ?_ | refine g_store ?_ | refine g_box rfl fun _ _ => ?_ | refine g_alloc rfl fun _ _ => ?_ | refine g_allocS rfl fun _ _ => ?_ | refine g_storeAgg ?_ | refine g_inBlock ?_ | refine g_block ?_ | refine g_skip ?_ | refine g_condT ?_ | refine g_condF ?_ | refine g_add rfl (by omega) (by omega) ?_ | refine g_sub rfl (by omega) (by omega) ?_ | refine g_exit ?_ | refine g_thenExit ?_ | refine g_exitHere ?_ | refine g_exitOn rfl ?_ | refine g_ret ?_ | refine g_thenRet ?_ | refine g_blockRet ?_ | refine g_passS rfl ?_ | refine g_pass0 ?_ | refine g_passU rfl ?_ | refine g_passUS rfl ?_ | refine g_storeV ?_ | refine g_build1 rfl rfl fun _ _ => ?_ | refine g_buildN rfl rfl fun _ _ => ?_ | refine g_make rfl (by omega) (by omega) fun _ _ => ?_)
          exact g_next (b + 1) hbn (by omega) (by repeat (first | exact trivial | refine ⟨rfl, ?_⟩)) (List.Sublist.refl _)
    · have hgb : b = n := by have := h3; simp at this; omega
      repeat (first | refine g_op rfl ?_ | refine g_then ?_ | refine g_nil ?_ | refine g_region ?_ | refine g_seq ?_ | refine g_opS rfl ?_ | refine g_open ?_ | refine g_pass rfl ?_ | refine g_store ?_ | refine g_box rfl fun _ _ => ?_ | refine g_alloc rfl fun _ _ => ?_ | refine g_allocS rfl fun _ _ => ?_ | refine g_storeAgg ?_ | refine g_inBlock ?_ | refine g_block ?_ | refine g_skip ?_ | refine g_condT ?_ | refine g_condF ?_ | refine g_add rfl (by omega) (by omega) ?_ | refine g_sub rfl (by omega) (by omega) ?_ | refine g_exit ?_ | refine g_thenExit ?_ | refine g_exitHere ?_ | refine g_exitOn rfl ?_ | refine g_ret ?_ | refine g_thenRet ?_ | refine g_blockRet ?_ | refine g_passS rfl ?_ | refine g_pass0 ?_ | refine g_passU rfl ?_ | refine g_passUS rfl ?_ | refine g_storeV ?_ | refine g_build1 rfl rfl fun _ _ => ?_ | refine g_buildN rfl rfl fun _ _ => ?_ | refine g_make rfl (by omega) (by omega) fun _ _ => ?_)
      refine g_next (c + 1) hcn (by omega) (by repeat (first | exact trivial | refine ⟨rfl, ?_⟩)) ?_
      have : ps.zipIdx.map (entM n (fun i => rowTo bl n i (if i < b then c + 1 else c))) = ps.zipIdx.map (entM n (fun i => rowTo bl n i (c + 1))) := by
        apply List.map_congr_left
        intro q hq
        have hq2 : q.2 < ps.length := by
          obtain ⟨j, hj⟩ := List.getElem?_of_mem hq
          rw [List.getElem?_zipIdx] at hj
          obtain ⟨y, hy, rfl⟩ := Option.map_eq_some_iff.1 hj
          have := (List.getElem?_eq_some_iff.1 hy).1
          simpa using this
        simp only [entM]
        rw [if_pos (by omega)]
      rw [this]
      exact List.Sublist.cons _ (List.Sublist.refl _)
  · have hgc : c = n := by have := h2; simp at this; omega
    repeat (first | refine g_op rfl ?_ | refine g_then ?_ | refine g_nil ?_ | refine g_region ?_ | refine g_seq ?_ | refine g_opS rfl ?_ | refine g_open ?_ | refine g_pass rfl ?_ | refine g_store ?_ | refine g_box rfl fun _ _ => ?_ | refine g_alloc rfl fun _ _ => ?_ | refine g_allocS rfl fun _ _ => ?_ | refine g_storeAgg ?_ | refine g_inBlock ?_ | refine g_block ?_ | refine g_skip ?_ | refine g_condT ?_ | refine g_condF ?_ | refine g_add rfl (by omega) (by omega) ?_ | refine g_sub rfl (by omega) (by omega) ?_ | refine g_exit ?_ | refine g_thenExit ?_ | refine g_exitHere ?_ | refine g_exitOn rfl ?_ | refine g_ret ?_ | refine g_thenRet ?_ | refine g_blockRet ?_ | refine g_passS rfl ?_ | refine g_pass0 ?_ | refine g_passU rfl ?_ | refine g_passUS rfl ?_ | refine g_storeV ?_ | refine g_build1 rfl rfl fun _ _ => ?_ | refine g_buildN rfl rfl fun _ _ => ?_ | refine g_make rfl (by omega) (by omega) fun _ _ => ?_)
    refine g_ret1 rfl fun w hw => ⟨(po, fps (Ent.vec (some ⟨po, 0, none⟩) n n 38 1 (ps.map (valP n)) :: ps.zipIdx.map (entM n (fun i => rowTo bl n i c))), ps), rfl, ?_, hge⟩
    have hw' : Wd NoS w0 ((Ent.vec (some ⟨po, 0, none⟩) n n 38 1 (ps.map (valP n)) :: ps.zipIdx.map (entM n (fun i => rowTo bl n i c))) ++ []) w := by
      rw [List.append_nil]
      exact hw.sub (List.Sublist.cons_cons _ (List.Sublist.cons _ (List.Sublist.cons _ (List.Sublist.refl _))))
    refine hw'.pack _ fun w2 hw2 i p hp => ⟨?_, fun j v hj => ?_⟩
    · have := hw2.vecCell (k := 0) (j := i) (v := valP n p) rfl (by rw [List.getElem?_map, hp]; rfl)
      simpa using this
    · have := hw2.vecCell (k := i + 1) (j := j) (v := .bool v) (by rw [List.getElem?_cons_succ]; exact entM_get hp _) (by
        rw [hgc, hn, rowTo_full, List.getElem?_map, hj]; rfl)
      simpa using this
end Go.Proofs.YtebajiafdkokjaaDoor
