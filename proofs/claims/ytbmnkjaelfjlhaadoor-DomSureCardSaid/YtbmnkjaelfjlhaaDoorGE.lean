/- Texts joined: ReachG SureC HangA HangB HangC HangLaw OrderA PostB OrderB. -/
import Derived.Test.YtbmnkjaelfjlhaaDoorGD
/- graph.Reach; the law GraphReaches, walked. -/
namespace Go.Proofs.YtbmnkjaelfjlhaaDoor
open Go Go.RowKit
attribute [local irreducible] wpListIn Code.wpIn Exit.then Exit.inBlock bodyPost wpQuiet wpAnyIn
set_option maxHeartbeats 4000000

theorem check_pos {u : LUnit} (h : (checkL u).1 = 0) {k : Nat} {X : LFunc} (hX : u.funcs[k]? = some X) : 0 < X.blocks.length := by
  unfold checkL at h
  split at h
  · cases h
  · split at h
    · rename_i h2; exact absurd h h2
    · split at h
      · rename_i h2; exact absurd h h2
      · rename_i h3
        have hz := firstI_zero (by simpa using h3)
        have := hz k (List.getElem?_eq_some_iff.1 hX).1
        simp only [headAt, at0, hX, headErr] at this
        refine Classical.byContradiction fun hn => ?_
        have e : X.blocks.length = 0 := by omega
        rw [e] at this
        simp [within] at this
        split at this
        · omega
        · split at this
          · omega
          · split at this <;> omega
end Go.Proofs.YtbmnkjaelfjlhaaDoor


/- dom.sure: for each block the table of the blocks that every way to an end meets. -/
namespace Go.Proofs.YtbmnkjaelfjlhaaDoor
open Go Go.RowKit
attribute [local irreducible] wpListIn Code.wpIn Exit.then Exit.inBlock bodyPost wpQuiet wpAnyIn
set_option maxHeartbeats 4000000

def entM (n : Nat) (f : Nat → List Bool) (q : Nat × Nat) : Ent := Ent.vec (some ⟨q.1, 0, none⟩) n n 4 1 ((f q.2).map .bool)
theorem entM_get {n b p : Nat} {ps : List Nat} (h : ps[b]? = some p) (f : Nat → List Bool) : (ps.zipIdx.map (entM n f))[b]? = some (Ent.vec (some ⟨p, 0, none⟩) n n 4 1 ((f b).map .bool)) := by
  rw [List.getElem?_map, List.getElem?_zipIdx, h]
  simp [entM]
theorem entM_set {n b p : Nat} {ps : List Nat} (h : ps[b]? = some p) (f : Nat → List Bool) (l : List Bool) : (ps.zipIdx.map (entM n f)).set b (Ent.vec (some ⟨p, 0, none⟩) n n 4 1 (l.map .bool)) = ps.zipIdx.map (entM n (fun i => if i = b then l else f i)) := by
  apply List.ext_getElem?
  intro i
  rw [List.getElem?_set]
  have hlt : b < ps.length := (List.getElem?_eq_some_iff.1 h).1
  by_cases hib : b = i
  · subst hib
    rw [entM_get h]
    have h2 := (List.getElem?_eq_some_iff.1 h).2
    simp [hlt, entM, h2]
  · rw [if_neg hib]
    rw [List.getElem?_map, List.getElem?_map, List.getElem?_zipIdx]
    cases hp : ps[i]? with
    | none => simp
    | some q => simp [entM, Ne.symm hib]
open Classical in
noncomputable def rowTo (bl : List LBlock) (n b c : Nat) : List Bool := (List.range n).map fun d => decide (d < c ∧ Sure bl b d)
theorem rowTo_set {bl : List LBlock} {n b c : Nat} {v : Bool} (hc : c < n) (hv : v = true ↔ Sure bl b c) : (rowTo bl n b c).set c v = rowTo bl n b (c + 1) := by
  classical
  apply List.ext_getElem?
  intro d
  rw [List.getElem?_set]
  simp only [rowTo, List.length_map, List.length_range, List.getElem?_map]
  by_cases hd : c = d
  · subst hd
    simp only [if_true, hc, List.getElem?_range hc, Option.map_some]
    congr 1
    have : (c < c + 1 ∧ Sure bl b c) ↔ v = true := by rw [hv]; simp
    cases v
    · symm; rw [decide_eq_false_iff_not]; intro h; exact absurd (this.1 h) (by simp)
    · symm; rw [decide_eq_true_eq]; exact this.2 rfl
  · rw [if_neg hd]
    by_cases hdn : d < n
    · rw [List.getElem?_range hdn]
      simp only [Option.map_some, Option.some.injEq, decide_eq_decide]
      constructor
      · rintro ⟨h1, h2⟩; exact ⟨by omega, h2⟩
      · rintro ⟨h1, h2⟩; exact ⟨by omega, h2⟩
    · rw [List.getElem?_eq_none (by rw [List.length_range]; omega)]; rfl
theorem rowTo_get {bl : List LBlock} {n b c d : Nat} (hd : d < n) : ∃ y, (rowTo bl n b c)[d]? = some y := ⟨_, List.getElem?_eq_getElem (by simp [rowTo, hd])⟩
theorem rowTo_full {bl : List LBlock} {b : Nat} : rowTo bl bl.length b bl.length = sureRow bl b := by
  classical
  unfold rowTo sureRow
  apply List.map_congr_left
  intro d hd
  have : d < bl.length := by simpa using hd
  simp [this]
theorem rowTo_zero {bl : List LBlock} {n b : Nat} : rowTo bl n b 0 = List.replicate n false := by
  classical
  apply List.ext_getElem?
  intro d
  simp only [rowTo, List.getElem?_map, List.getElem?_replicate]
  by_cases hd : d < n
  · simp [hd]
  · rw [List.getElem?_eq_none (by rw [List.length_range]; omega)]; simp [hd]
/-- a table of rows of truth values, as one reads it -/
def tabB (bo n : Nat) (ps : List Nat) (f : Nat → List Bool) (w : World) : Prop := ∀ i p, ps[i]? = some p → w.cell? ⟨bo, i, none⟩ = some (valP n p) ∧ ∀ j v, (f i)[j]? = some v → w.cell? ⟨p, j, none⟩ = some (.bool v)
theorem sure_c (nm pa re : Value) (bl : List LBlock) (bs : Value) (w0 : World) (hbs : SlAt w0 bs 6 bl BlockV) (hlen : bl.length ≤ 100) (hok : GoodB bl) :
    Ret Tryd.prog 59 [.agg #[nm, pa, re, bs]] w0 fun u w' => ∃ x : Nat × (Nat → Prop) × List Nat, u = .slice (some ⟨x.1, 0, none⟩) bl.length bl.length ∧ Wd NoS w0 [⟨x.2.1, tabB x.1 bl.length x.2.2 (sureRow bl)⟩] w' ∧ x.2.2.length = bl.length := by
  classical
  have hbs0 := hbs
  obtain ⟨ba, n, bc, bb, bo', rfl, hn, hnc, hnb, hbc, hba, hel⟩ := hbs
  rw [← hn] at hlen ⊢
  refine ret_enter Tryd.func59 rfl Tryd.ntmps59 rfl (Wd.nil NoS w0) ?_
  repeat (first | refine g_op rfl ?_ | refine g_then ?_ | refine g_nil ?_ | refine g_region ?_ | refine g_seq ?_ | refine g_box rfl fun _ _ => ?_ | refine g_make rfl (by omega) (by omega) fun _ _ => ?_)
  rename_i p1 _ po _
  refine g_callE (val := fun p : Nat => .slice (some ⟨p, 0, none⟩) bl.length bl.length) (E := fun p => [Ent.vec (some ⟨p, 0, none⟩) bl.length bl.length 4 1 ((endsOf bl (-1)).map .bool)]) (φ := fun _ => True) rfl (fun w hw => ends_c _ _ _ bl _ (-1) w (hbs0.keep keeps_block hw.chg) (by omega) hok) fun pal _ => ?_
  rw [← hn]
  simp only [List.cons_append, List.nil_append]
  repeat (first | refine g_op rfl ?_ | refine g_then ?_ | refine g_nil ?_ | refine g_region ?_ | refine g_seq ?_ | refine g_block ?_)
  refine g_permH (List.Perm.swap _ _ _) ?_
  refine g_loop (fun (ps : List Nat) => ps.length ≤ n) (fun ps => [(17, .int .i64 ps.length), (16, .int .i64 n), (3, .slice (some ⟨po, 0, none⟩) n n), (4, .slice (some ⟨pal, 0, none⟩) n n), (1, .pointer (some ⟨p1, 0, none⟩))])
    (fun ps => Ent.vec (some ⟨po, 0, none⟩) n n 108 1 (ps.map (valP n) ++ List.replicate (n - ps.length) (.slice none 0 0)) :: Ent.vec (some ⟨pal, 0, none⟩) n n 4 1 ((endsOf bl (-1)).map .bool) :: Ent.box p1 [nm, pa, re, .slice ba n bc] 35 :: ps.zipIdx.map (entM n (fun i => rowTo bl n i 0)))
    (fun ps => n - ps.length) [] (Nat.zero_le _) (g_done (by repeat (first | exact trivial | refine ⟨rfl, ?_⟩)) (List.Sublist.refl _)) fun ps hps => ?_
  repeat (first | refine g_op rfl ?_ | refine g_then ?_ | refine g_nil ?_ | refine g_region ?_ | refine g_seq ?_)
  refine g_cond (fun h1 => ?_) (fun h1 => ?_)
  · have hlt : ps.length < n := by simpa using h1
    have hli : LtIs ps.length n := ⟨hlt⟩
    repeat (first | refine g_op rfl ?_ | refine g_then ?_ | refine g_nil ?_ | refine g_region ?_ | refine g_seq ?_ | refine g_block ?_ | refine g_skip ?_ | refine g_make rfl (by omega) (by omega) fun _ _ => ?_)
    rename_i pn _
    have hxs : XSet (ps.map (valP n) ++ List.replicate (n - ps.length) (.slice none 0 0)) (ps.length * 1) (.slice (some ⟨pn, 0, none⟩) n n) ((ps ++ [pn]).map (valP n) ++ List.replicate (n - (ps ++ [pn]).length) (.slice none 0 0)) := by
      refine ⟨?_, by simp; omega⟩
      rw [Nat.mul_one, List.set_append_right _ _ (by simp)]
      obtain ⟨m, hm⟩ : ∃ m, n - ps.length = m + 1 := ⟨n - ps.length - 1, by omega⟩
      have hm2 : n - (ps ++ [pn]).length = m := by simp; omega
      rw [hm, hm2]
      simp [List.replicate_succ, valP]
    repeat (first | refine g_then ?_ | refine g_nil ?_ | refine g_region ?_ | refine g_opS rfl ?_ | refine g_inBlock ?_ | refine g_add rfl (by omega) (by omega) ?_ | refine g_storeV ?_)
    refine g_permH (List.perm_append_singleton _ _).symm ?_
    refine g_next (ps ++ [pn]) (by simp; omega) (by simp; omega) ?_ ?_
    · simp only [List.length_append, List.length_singleton, Int.natCast_add]
      exact (by repeat (first | exact trivial | refine ⟨rfl, ?_⟩))
    · have : (ps ++ [pn]).zipIdx.map (entM n (fun i => rowTo bl n i 0)) = ps.zipIdx.map (entM n (fun i => rowTo bl n i 0)) ++ [Ent.vec (some ⟨pn, 0, none⟩) n n 4 1 (List.replicate n (.bool false))] := by
        simp [List.zipIdx_append, entM, rowTo_zero]
      rw [this]
      exact List.Sublist.refl _
  have hge : ps.length = n := by have := h1; simp at this; omega
  rw [show n - ps.length = 0 by omega, List.replicate_zero, List.append_nil]
  have rowP : ∀ d, d < n → ∃ pd, ps[d]? = some pd := fun d hd => ⟨_, List.getElem?_eq_getElem (by omega)⟩
  repeat (first | refine g_op rfl ?_ | refine g_then ?_ | refine g_nil ?_ | refine g_region ?_ | refine g_seq ?_ | refine g_block ?_ | refine g_exit ?_ | refine g_thenExit ?_ | refine g_exitHere ?_)
  refine g_loop (fun (c : Nat) => c ≤ n) (fun c => [(31, .int .i64 c), (30, .int .i64 n), (3, .slice (some ⟨po, 0, none⟩) n n), (4, .slice (some ⟨pal, 0, none⟩) n n), (1, .pointer (some ⟨p1, 0, none⟩))])
    (fun c => Ent.vec (some ⟨po, 0, none⟩) n n 108 1 (ps.map (valP n)) :: Ent.vec (some ⟨pal, 0, none⟩) n n 4 1 ((endsOf bl (-1)).map .bool) :: Ent.box p1 [nm, pa, re, .slice ba n bc] 35 :: ps.zipIdx.map (entM n (fun i => rowTo bl n i c)))
    (fun c => n - c) 0 (Nat.zero_le _) (g_done (by repeat (first | exact trivial | refine ⟨rfl, ?_⟩)) (List.Sublist.refl _)) fun c hc => ?_
  repeat (first | refine g_op rfl ?_ | refine g_then ?_ | refine g_nil ?_ | refine g_region ?_ | refine g_seq ?_)
  refine g_cond (fun h2 => ?_) (fun h2 => ?_)
  · have hcn : c < n := by simpa using h2
    repeat (first | refine g_op rfl ?_ | refine g_then ?_ | refine g_nil ?_ | refine g_region ?_ | refine g_seq ?_ | refine g_block ?_ | refine g_skip ?_)
    refine g_callE (val := fun p : Nat => .slice (some ⟨p, 0, none⟩) bl.length bl.length) (E := fun p => [Ent.vec (some ⟨p, 0, none⟩) bl.length bl.length 4 1 ((endsOf bl c).map .bool)]) (φ := fun _ => True) rfl (fun w hw => ends_c _ _ _ bl _ c w (hbs0.keep keeps_block hw.chg) (by omega) hok) fun pw _ => ?_
    rw [← hn]
    simp only [List.cons_append, List.nil_append]
    repeat (first | refine g_op rfl ?_ | refine g_then ?_ | refine g_nil ?_ | refine g_region ?_ | refine g_seq ?_ | refine g_block ?_)
    refine g_loop (fun (b : Nat) => b ≤ n) (fun b => [(40, .int .i64 b), (39, .int .i64 n), (7, .slice (some ⟨pw, 0, none⟩) n n), (6, .int .i64 c), (31, .int .i64 c), (30, .int .i64 n), (3, .slice (some ⟨po, 0, none⟩) n n), (4, .slice (some ⟨pal, 0, none⟩) n n), (1, .pointer (some ⟨p1, 0, none⟩))])
      (fun b => Ent.vec (some ⟨pw, 0, none⟩) n n 4 1 ((endsOf bl c).map .bool) :: Ent.vec (some ⟨po, 0, none⟩) n n 108 1 (ps.map (valP n)) :: Ent.vec (some ⟨pal, 0, none⟩) n n 4 1 ((endsOf bl (-1)).map .bool) :: Ent.box p1 [nm, pa, re, .slice ba n bc] 35 :: ps.zipIdx.map (entM n (fun i => rowTo bl n i (if i < b then c + 1 else c))))
      (fun b => n - b) 0 (Nat.zero_le _) (g_done (by repeat (first | exact trivial | refine ⟨rfl, ?_⟩)) (by simp)) fun b hb => ?_
    repeat (first | refine g_op rfl ?_ | refine g_then ?_ | refine g_nil ?_ | refine g_region ?_ | refine g_seq ?_)
    refine g_cond (fun h3 => ?_) (fun h3 => ?_)
    · have hbn : b < n := by simpa using h3
      obtain ⟨pb, hpb⟩ := rowP b hbn
      have hlb : LtIs b n := ⟨hbn⟩
      have hlc : LtIs c n := ⟨hcn⟩
      have hxa : XAt (ps.map (valP n)) (b * 1) (.slice (some ⟨pb, 0, none⟩) n n) := ⟨by simp [hpb, valP]⟩
      obtain ⟨av, hav⟩ : ∃ av, (endsOf bl (-1))[b]? = some av := ⟨_, endsOf_get (by omega)⟩
      obtain ⟨wv, hwv⟩ : ∃ wv, (endsOf bl c)[b]? = some wv := ⟨_, endsOf_get (by omega)⟩
      have hea : ElAt (endsOf bl (-1)) b av := ⟨hav⟩
      have hew : ElAt (endsOf bl c) b wv := ⟨hwv⟩
      rw [endsOf_get (by omega)] at hav hwv
      simp only [Option.some.injEq] at hav hwv
      obtain ⟨y, hy⟩ := rowTo_get (bl := bl) (b := b) (c := c) hcn
      have hey : ElAt (rowTo bl n b c) c y := ⟨hy⟩
      have hoa : OwnAt (ps.zipIdx.map (entM n (fun i => rowTo bl n i (if i < b then c + 1 else c)))) pb (0 + c * 1) b 0 (c * 1) n n 4 1 ((rowTo bl n b c).map .bool) := ⟨by rw [entM_get hpb]; simp, rfl⟩
      have hset : ∀ v : Bool, (v = true ↔ Sure bl b c) → SetAt (ps.zipIdx.map (entM n (fun i => rowTo bl n i (if i < b then c + 1 else c)))) b (Ent.vec (some ⟨pb, 0, none⟩) n n 4 1 (((rowTo bl n b c).set c v).map .bool)) (ps.zipIdx.map (entM n (fun i => rowTo bl n i (if i < b + 1 then c + 1 else c)))) := by
        intro v hv
        refine ⟨?_⟩
        rw [entM_set hpb, rowTo_set hcn hv]
        congr 2
        funext i
        by_cases hib : i = b
        · subst hib; simp
        · rw [if_neg hib]
          congr 1
          by_cases h : i < b
          · rw [if_pos h, if_pos (by omega)]
          · rw [if_neg h, if_neg (by omega)]
      repeat (first | refine g_op rfl ?_ | refine g_then ?_ | refine g_nil ?_ | refine g_region ?_ | refine g_seq ?_ | refine g_block ?_ | refine g_skip ?_)
      have hsub : ∀ T : List Ent, List.Sublist [Ent.vec (some ⟨pw, 0, none⟩) n n 4 1 ((endsOf bl c).map .bool), Ent.vec (some ⟨po, 0, none⟩) n n 108 1 (ps.map (valP n)), Ent.vec (some ⟨pal, 0, none⟩) n n 4 1 ((endsOf bl (-1)).map .bool), Ent.box p1 [nm, pa, re, .slice ba n bc] 35] (Ent.vec (some ⟨pw, 0, none⟩) n n 4 1 ((endsOf bl c).map .bool) :: Ent.vec (some ⟨po, 0, none⟩) n n 108 1 (ps.map (valP n)) :: Ent.vec (some ⟨pal, 0, none⟩) n n 4 1 ((endsOf bl (-1)).map .bool) :: Ent.box p1 [nm, pa, re, .slice ba n bc] 35 :: T) := fun T => List.sublist_append_left [_, _, _, _] T
      cases av
      · have hs := hset false (by simp only [Sure, reduceCtorEq, false_iff]; intro h; exact absurd h.1 (by simpa using hav))
        refine g_drawH [Ent.vec (some ⟨pw, 0, none⟩) n n 4 1 ((endsOf bl c).map .bool), Ent.vec (some ⟨po, 0, none⟩) n n 108 1 (ps.map (valP n)), Ent.vec (some ⟨pal, 0, none⟩) n n 4 1 ((endsOf bl (-1)).map .bool), Ent.box p1 [nm, pa, re, .slice ba n bc] 35] mixed (hsub _) ?_
        refine h_take 0 rfl (by decide +kernel) (hsub _) ?_
        refine h_take 1 rfl (by decide +kernel) (hsub _) ?_
        refine h_take 2 rfl (by decide +kernel) (hsub _) ?_
        refine h_take 3 rfl (by decide +kernel) (hsub _) ?_
        refine h_take 4 rfl (by decide +kernel) (hsub _) ?_
        refine h_take 5 rfl (by decide +kernel) (hsub _) ?_
        refine h_take 6 rfl (by decide +kernel) (hsub _) ?_
        refine h_take 7 rfl (by decide +kernel) (hsub _) ?_
        refine h_take 8 rfl (by decide +kernel) (hsub _) ?_
        refine h_take 9 rfl (by decide +kernel) (hsub _) ?_
        refine h_takeP 10 rfl (by decide +kernel) (hsub _) ?_
        refine h_takeP 11 rfl (by decide +kernel) (hsub _) ?_
        refine h_takeP 12 rfl (by decide +kernel) (hsub _) ?_
        refine h_takeP 13 rfl (by decide +kernel) (hsub _) ?_
        refine h_takeP 14 rfl (by decide +kernel) (hsub _) ?_
        refine h_take 15 rfl (by decide +kernel) (hsub _) ?_
        refine h_take 16 rfl (by decide +kernel) (hsub _) ?_
        refine h_storeV 17 (by decide +kernel) (by decide +kernel) (hsub _) ?_
        repeat (first | refine g_then ?_ | refine g_nil ?_ | refine g_region ?_ | refine g_opS rfl ?_ | refine g_inBlock ?_ | refine g_add rfl (by omega) (by omega) ?_)
        exact g_next (b + 1) hbn (by omega) (by repeat (first | exact trivial | refine ⟨rfl, ?_⟩)) (List.Sublist.refl _)
      · cases wv
        · have hs := hset true (by simp only [Sure, true_iff]; exact ⟨by simpa using hav, by simpa using hwv⟩)
          refine g_drawH [Ent.vec (some ⟨pw, 0, none⟩) n n 4 1 ((endsOf bl c).map .bool), Ent.vec (some ⟨po, 0, none⟩) n n 108 1 (ps.map (valP n)), Ent.vec (some ⟨pal, 0, none⟩) n n 4 1 ((endsOf bl (-1)).map .bool), Ent.box p1 [nm, pa, re, .slice ba n bc] 35] mixed (hsub _) ?_
          refine h_take 0 rfl (by decide +kernel) (hsub _) ?_
          refine h_take 1 rfl (by decide +kernel) (hsub _) ?_
          refine h_take 2 rfl (by decide +kernel) (hsub _) ?_
          refine h_take 3 rfl (by decide +kernel) (hsub _) ?_
          refine h_take 4 rfl (by decide +kernel) (hsub _) ?_
          refine h_take 5 rfl (by decide +kernel) (hsub _) ?_
          refine h_take 6 rfl (by decide +kernel) (hsub _) ?_
          refine h_take 7 rfl (by decide +kernel) (hsub _) ?_
          refine h_take 8 rfl (by decide +kernel) (hsub _) ?_
          refine h_take 9 rfl (by decide +kernel) (hsub _) ?_
          refine h_takeG 10 rfl (by decide +kernel) (hsub _) ?_
          refine h_takeG 11 rfl (by decide +kernel) (hsub _) ?_
          refine h_takeG 12 rfl (by decide +kernel) (hsub _) ?_
          refine h_takeG 13 rfl (by decide +kernel) (hsub _) ?_
          refine h_takeG 14 rfl (by decide +kernel) (hsub _) ?_
          refine h_take 15 rfl (by decide +kernel) (hsub _) ?_
          refine h_take 16 rfl (by decide +kernel) (hsub _) ?_
          refine h_storeV 17 (by decide +kernel) (by decide +kernel) (hsub _) ?_
          repeat (first | refine g_then ?_ | refine g_nil ?_ | refine g_region ?_ | refine g_opS rfl ?_ | refine g_inBlock ?_ | refine g_add rfl (by omega) (by omega) ?_)
          exact g_next (b + 1) hbn (by omega) (by repeat (first | exact trivial | refine ⟨rfl, ?_⟩)) (List.Sublist.refl _)
        · have hs := hset false (by simp only [Sure, reduceCtorEq, false_iff]; intro h; exact h.2 (by simpa using hwv))
          refine g_drawH [Ent.vec (some ⟨pw, 0, none⟩) n n 4 1 ((endsOf bl c).map .bool), Ent.vec (some ⟨po, 0, none⟩) n n 108 1 (ps.map (valP n)), Ent.vec (some ⟨pal, 0, none⟩) n n 4 1 ((endsOf bl (-1)).map .bool), Ent.box p1 [nm, pa, re, .slice ba n bc] 35] mixed (hsub _) ?_
          refine h_take 0 rfl (by decide +kernel) (hsub _) ?_
          refine h_take 1 rfl (by decide +kernel) (hsub _) ?_
          refine h_take 2 rfl (by decide +kernel) (hsub _) ?_
          refine h_take 3 rfl (by decide +kernel) (hsub _) ?_
          refine h_take 4 rfl (by decide +kernel) (hsub _) ?_
          refine h_take 5 rfl (by decide +kernel) (hsub _) ?_
          refine h_take 6 rfl (by decide +kernel) (hsub _) ?_
          refine h_take 7 rfl (by decide +kernel) (hsub _) ?_
          refine h_take 8 rfl (by decide +kernel) (hsub _) ?_
          refine h_take 9 rfl (by decide +kernel) (hsub _) ?_
          refine h_takeG 10 rfl (by decide +kernel) (hsub _) ?_
          refine h_takeG 11 rfl (by decide +kernel) (hsub _) ?_
          refine h_takeG 12 rfl (by decide +kernel) (hsub _) ?_
          refine h_takeG 13 rfl (by decide +kernel) (hsub _) ?_
          refine h_takeG 14 rfl (by decide +kernel) (hsub _) ?_
          refine h_take 15 rfl (by decide +kernel) (hsub _) ?_
          refine h_take 16 rfl (by decide +kernel) (hsub _) ?_
          refine h_storeV 17 (by decide +kernel) (by decide +kernel) (hsub _) ?_
          repeat (first | refine g_then ?_ | refine g_nil ?_ | refine g_region ?_ | refine g_opS rfl ?_ | refine g_inBlock ?_ | refine g_add rfl (by omega) (by omega) ?_)
          exact g_next (b + 1) hbn (by omega) (by repeat (first | exact trivial | refine ⟨rfl, ?_⟩)) (List.Sublist.refl _)
    · have hgb : b = n := by have := h3; simp at this; omega
      repeat (first | refine g_then ?_ | refine g_nil ?_ | refine g_region ?_ | refine g_opS rfl ?_ | refine g_inBlock ?_ | refine g_add rfl (by omega) (by omega) ?_ | refine g_exit ?_ | refine g_thenExit ?_ | refine g_exitHere ?_)
      refine g_next (c + 1) hcn (by omega) (by repeat (first | exact trivial | refine ⟨rfl, ?_⟩)) ?_
      have : ps.zipIdx.map (entM n (fun i => rowTo bl n i (if i < b then c + 1 else c))) = ps.zipIdx.map (entM n (fun i => rowTo bl n i (c + 1))) := by
        apply List.map_congr_left
        intro q hq
        have hq2 : q.2 < ps.length := by
          obtain ⟨j, hj⟩ := List.getElem?_of_mem hq
          rw [List.getElem?_zipIdx] at hj
          obtain ⟨y, hy, rfl⟩ := Option.map_eq_some_iff.1 hj
          have := (List.getElem?_eq_some_iff.1 hy).1
          simpa using this
        simp only [entM]
        rw [if_pos (by omega)]
      rw [this]
      exact List.Sublist.cons _ (List.Sublist.refl _)
  · have hgc : c = n := by have := h2; simp at this; omega
    repeat (first | refine g_op rfl ?_ | refine g_then ?_ | refine g_nil ?_ | refine g_region ?_ | refine g_seq ?_ | refine g_exit ?_ | refine g_thenExit ?_ | refine g_exitHere ?_ | refine g_ret ?_)
    refine g_ret1 rfl fun w hw => ⟨(po, fps (Ent.vec (some ⟨po, 0, none⟩) n n 108 1 (ps.map (valP n)) :: ps.zipIdx.map (entM n (fun i => rowTo bl n i c))), ps), rfl, ?_, hge⟩
    have hw' : Wd NoS w0 ((Ent.vec (some ⟨po, 0, none⟩) n n 108 1 (ps.map (valP n)) :: ps.zipIdx.map (entM n (fun i => rowTo bl n i c))) ++ []) w := by
      rw [List.append_nil]
      exact hw.sub (List.Sublist.cons_cons _ (List.Sublist.cons _ (List.Sublist.cons _ (List.Sublist.refl _))))
    refine hw'.pack _ fun w2 hw2 i p hp => ⟨?_, fun j v hj => ?_⟩
    · have := hw2.vecCell (k := 0) (j := i) (v := valP n p) rfl (by rw [List.getElem?_map, hp]; rfl)
      simpa using this
    · have := hw2.vecCell (k := i + 1) (j := j) (v := .bool v) (by rw [List.getElem?_cons_succ]; exact entM_get hp _) (by
        rw [hgc, hn, rowTo_full, List.getElem?_map, hj]; rfl)
      simpa using this
end Go.Proofs.YtbmnkjaelfjlhaaDoor


/- dom.Hang$1, turnerysame.Ints and Rows: what each returns. -/
namespace Go.Proofs.YtbmnkjaelfjlhaaDoor
open Go Go.RowKit
attribute [local irreducible] wpListIn Code.wpIn Exit.then Exit.inBlock bodyPost wpQuiet wpAnyIn
set_option maxHeartbeats 2000000

end Go.Proofs.YtbmnkjaelfjlhaaDoor


/- dom.Hang: what it returns. -/
namespace Go.Proofs.YtbmnkjaelfjlhaaDoor
open Go Go.RowKit
attribute [local irreducible] wpListIn Code.wpIn Exit.then Exit.inBlock bodyPost wpQuiet wpAnyIn
set_option maxHeartbeats 4000000

end Go.Proofs.YtbmnkjaelfjlhaaDoor


/- turneryref3.Hang: what it returns. -/
namespace Go.Proofs.YtbmnkjaelfjlhaaDoor
open Go Go.RowKit
attribute [local irreducible] wpListIn Code.wpIn Exit.then Exit.inBlock bodyPost wpQuiet wpAnyIn
set_option maxHeartbeats 4000000

end Go.Proofs.YtbmnkjaelfjlhaaDoor


/- The law DomHangs, walked. -/
namespace Go.Proofs.YtbmnkjaelfjlhaaDoor
open Go Go.RowKit
attribute [local irreducible] wpListIn Code.wpIn Exit.then Exit.inBlock bodyPost wpQuiet wpAnyIn
set_option maxHeartbeats 2000000

end Go.Proofs.YtbmnkjaelfjlhaaDoor


/- slices.Reverse, graph.OrderOf, graph.Order; two more rules. -/
namespace Go.Proofs.YtbmnkjaelfjlhaaDoor
open Go Go.RowKit

section
variable {P : Program} {ro : Option Nat} {N : Nat} {ds : List Deferred} {S : Nat → Prop} {w0 : World} {L L' : List (Nat × Value)} {H H' : List Ent} {ops : Array Oper} {rest : List Oper} {Q : Exit → Act → World → Prop} {x y : Operand}
theorem set_self {α : Type} {l : List α} {k : Nat} {e : α} (h : l[k]? = some e) : l.set k e = l := by
  apply List.ext_getElem?
  intro i
  rw [List.getElem?_set]
  split
  · rename_i hi; subst hi
    rw [if_pos (List.getElem?_eq_some_iff.1 h).1, h]
  · rfl
end
attribute [local irreducible] wpListIn Code.wpIn Exit.then Exit.inBlock bodyPost wpQuiet wpAnyIn
set_option maxHeartbeats 4000000

instance (x : Nat) : OneV (intN x) := ⟨rfl⟩
end Go.Proofs.YtbmnkjaelfjlhaaDoor


/- dom.Post: what it returns. -/
namespace Go.Proofs.YtbmnkjaelfjlhaaDoor
open Go Go.RowKit
attribute [local irreducible] wpListIn Code.wpIn Exit.then Exit.inBlock bodyPost wpQuiet wpAnyIn
set_option maxHeartbeats 4000000

/-- a row of numbers, packed -/
theorem Wd.ints {S : Nat → Prop} {w0 w : World} {a : Option Addr} {n c e : Nat} {l : List Int} (h : Wd S w0 [Ent.vec a n c e 1 (l.map (.int .i64))] w) (hn : n = l.length) (hb : n ≤ 100000) (hi : ∀ x ∈ l, inI x) :
    Wd S w0 [⟨fps [Ent.vec a n c e 1 (l.map (.int .i64))], fun w => SlAt w (.slice a n c) 1 l IntV⟩] w := by
  have h1 : Wd S w0 ([Ent.vec a n c e 1 (l.map (.int .i64))] ++ []) w := by rw [List.append_nil]; exact h
  refine h1.pack _ fun w2 hw2 => ?_
  refine hw2.slAt (k := 0) rfl hn (by omega) fun j y hy => ⟨[.int .i64 y], fun k v hk => ?_, rfl, hi y (List.mem_of_getElem? hy)⟩
  match k, hk with
  | 0, hk => simpa [hy] using hk
def BestL (bl : List LBlock) (n : Nat) (l : List Int) : Prop := l.length = n ∧ ∀ i z, l[i]? = some z → Best bl i bl.length z
theorem best_in {bl : List LBlock} {b m : Nat} {z : Int} (h : Best bl b m z) (hm : m ≤ 100) : inI z ∧ (z = -1 ∨ ∃ p : Nat, z = p ∧ p < m) := by
  rcases h with ⟨rfl, _⟩ | ⟨p, hp, rfl, _⟩
  · exact ⟨by simp [inI], .inl rfl⟩
  · exact ⟨by simp only [inI]; omega, .inr ⟨p, rfl, hp⟩⟩
theorem bestL_in {bl : List LBlock} {n : Nat} {l : List Int} (h : BestL bl n l) (hm : bl.length ≤ 100) : ∀ z ∈ l, inI z := fun z hz => by
  obtain ⟨i, hi⟩ := List.getElem?_of_mem hz
  exact (best_in (h.2 i z hi) hm).1
theorem bestL_add {bl : List LBlock} {l : List Int} {z : Int} (h : BestL bl l.length l) (hz : Best bl l.length bl.length z) : BestL bl (l ++ [z]).length (l ++ [z]) := by
  refine ⟨rfl, fun i y hy => ?_⟩
  by_cases hi : i < l.length
  · rw [List.getElem?_append_left hi] at hy
    exact h.2 i y hy
  · have hlt := (List.getElem?_eq_some_iff.1 hy).1
    simp only [List.length_append, List.length_singleton] at hlt
    have : i = l.length := by omega
    subst this
    simp only [List.getElem?_append_right (Nat.le_refl _), Nat.sub_self, List.getElem?_cons_zero, Option.some.injEq] at hy
    exact hy ▸ hz
def TakeP (bl : List LBlock) (b c : Nat) (z : Int) : Prop := c ≠ b ∧ Sure bl b c ∧ (z < 0 ∨ ∃ p : Nat, z = p ∧ Sure bl c p)
theorem post_ok (u : LUnit) (hl : light u) (k : Nat) (hgood : (askedL u k).1 = 0) (X : LFunc) (hX : u.funcs[k]? = some X) (hok : GoodB X.blocks) (g fs : Value) (w0 : World) (hg : SlAt w0 g 3 u.globals GlobalV) (hf : SlAt w0 fs 4 u.funcs FuncV) (hways : CellsAt w0 0 0 waysC) :
    Ret Tryd.prog 26 [.agg #[g, fs], .int .i64 k] w0 fun v w' => ∃ x : Option Addr × Nat × List Int, v = .tuple #[.slice x.1 X.blocks.length x.2.1, .agg #[.int .i64 0, .int .i64 0]] ∧ Wd NoS w0 [Ent.vec x.1 X.blocks.length x.2.1 3 1 (x.2.2.map (.int .i64))] w' ∧ BestL X.blocks X.blocks.length x.2.2 := by
  classical
  have hg0 := hg
  have hf0 := hf
  obtain ⟨ga, gn, gc, gb, go, rfl, _⟩ := hg
  obtain ⟨fa, fn, fc, fb, fo, rfl, _⟩ := hf
  have hlx := hl.2 X (List.mem_of_getElem? hX)
  have h24 := hlx.1
  obtain ⟨bv, hbv, hfc⟩ := func_ok u hl k hgood _ _ X hX w0 hg0 hf0 hways
  have hbv0 := hbv
  obtain ⟨ba, n, bc, bb, bo', rfl, hn, hnc, hnb, hbc, hba, hel⟩ := hbv
  refine ret_enter Tryd.func26 rfl Tryd.ntmps26 rfl (Wd.nil NoS w0) ?_
  repeat (first | refine g_op rfl ?_ | refine g_then ?_ | refine g_nil ?_ | refine g_region ?_ | refine g_seq ?_ | refine g_box rfl fun _ _ => ?_ | refine g_alloc rfl fun _ _ => ?_)
  rename_i p2 _ p5 _
  refine g_callV rfl (fun w hw => hfc w hw.chg) ?_
  repeat (first | refine g_op rfl ?_ | refine g_then ?_ | refine g_nil ?_ | refine g_region ?_ | refine g_seq ?_ | refine g_alloc rfl fun _ _ => ?_ | refine g_storeAgg ?_ | refine g_skip ?_ | refine g_condF ?_)
  rename_i p6 _ p7 _
  refine g_callE (val := fun x : Nat × (Nat → Prop) × List Nat => .slice (some ⟨x.1, 0, none⟩) X.blocks.length X.blocks.length) (E := fun x => [⟨x.2.1, tabB x.1 X.blocks.length x.2.2 (sureRow X.blocks)⟩]) (φ := fun x => x.2.2.length = X.blocks.length) rfl (fun w hw => sure_c _ _ _ X.blocks _ w (hbv0.keep keeps_block hw.chg) (by omega) hok) fun x hps => ?_
  obtain ⟨po, fp, ps⟩ := x
  simp only at hps
  rw [← hn] at hps ⊢
  simp only [List.cons_append, List.nil_append]
  repeat (first | refine g_op rfl ?_ | refine g_then ?_ | refine g_nil ?_ | refine g_region ?_ | refine g_seq ?_ | refine g_block ?_)
  refine g_nilVec 3 1 ?_
  refine g_loop (fun (x : Option Addr × Nat × List Int) => x.2.2.length ≤ n ∧ BestL X.blocks x.2.2.length x.2.2) (fun x => [(28, .int .i64 x.2.2.length), (27, .int .i64 n), (9, .slice x.1 x.2.2.length x.2.1), (8, .slice (some ⟨po, 0, none⟩) n n), (6, .pointer (some ⟨p6, 0, none⟩)), (7, .pointer (some ⟨p7, 0, none⟩)), (5, .pointer (some ⟨p5, 0, none⟩))])
    (fun x => Ent.vec x.1 x.2.2.length x.2.1 3 1 (x.2.2.map (.int .i64)) :: [⟨fp, tabB po n ps (sureRow X.blocks)⟩, Ent.box p7 [.int .i64 0, .int .i64 0] 28, Ent.box p6 [.string X.name, .int .i64 X.params, .int .i64 X.regs, .slice ba n bc] 35, Ent.box p5 [.int .i64 0, .int .i64 0] 28]) (fun x => n - x.2.2.length) (none, 0, []) ⟨Nat.zero_le _, rfl, by simp⟩ (g_done (by repeat (first | exact trivial | refine ⟨rfl, ?_⟩)) (by simp)) fun x ⟨hi, hbest⟩ => ?_
  obtain ⟨oa, oc, l⟩ := x
  simp only at hi hbest ⊢
  repeat (first | refine g_op rfl ?_ | refine g_then ?_ | refine g_nil ?_ | refine g_region ?_ | refine g_seq ?_)
  refine g_cond (fun h1 => ?_) (fun h1 => ?_)
  · have hlt : l.length < n := by simpa using h1
    repeat (first | refine g_op rfl ?_ | refine g_then ?_ | refine g_nil ?_ | refine g_region ?_ | refine g_seq ?_ | refine g_block ?_ | refine g_skip ?_)
    refine g_loop (fun (x : Nat × Int) => x.1 ≤ n ∧ Best X.blocks l.length x.1 x.2) (fun x => [(34, .int .i64 x.1), (11, .int .i64 x.2), (33, .int .i64 n), (10, .int .i64 l.length), (28, .int .i64 l.length), (27, .int .i64 n), (9, .slice oa l.length oc), (8, .slice (some ⟨po, 0, none⟩) n n), (6, .pointer (some ⟨p6, 0, none⟩)), (7, .pointer (some ⟨p7, 0, none⟩)), (5, .pointer (some ⟨p5, 0, none⟩))]) (fun x => Ent.vec oa l.length oc 3 1 (l.map (.int .i64)) :: [⟨fp, tabB po n ps (sureRow X.blocks)⟩, Ent.box p7 [.int .i64 0, .int .i64 0] 28, Ent.box p6 [.string X.name, .int .i64 X.params, .int .i64 X.regs, .slice ba n bc] 35, Ent.box p5 [.int .i64 0, .int .i64 0] 28]) (fun x => n - x.1) (0, -1) ⟨Nat.zero_le _, best_zero _ _⟩ (g_done (by repeat (first | exact trivial | refine ⟨rfl, ?_⟩)) (List.Sublist.refl _)) fun x ⟨hj, hz⟩ => ?_
    obtain ⟨c, z⟩ := x
    simp only at hj hz ⊢
    have hzi := best_in hz (by omega)
    repeat (first | refine g_op rfl ?_ | refine g_then ?_ | refine g_nil ?_ | refine g_region ?_ | refine g_seq ?_)
    refine g_cond (fun h2 => ?_) (fun h2 => ?_)
    · have hclt : c < n := by simpa using h2
      have rowP : ∀ d e, d < n → e < n → ∃ pd, ps[d]? = some pd ∧ PackCell (tabB po n ps (sureRow X.blocks)) po (0 + d * 1) (.slice (some ⟨pd, 0, none⟩) n n) ∧ PackCell (tabB po n ps (sureRow X.blocks)) pd (0 + e * 1) (.bool (decide (Sure X.blocks d e))) := by
        intro d e hd he
        obtain ⟨pd, hpd⟩ : ∃ pd, ps[d]? = some pd := ⟨_, List.getElem?_eq_getElem (by omega)⟩
        exact ⟨pd, hpd, ⟨fun w hF => by have := (hF d pd hpd).1; simpa [valP] using this⟩, ⟨fun w hF => by have := (hF d pd hpd).2 e _ (sureRow_get (by omega)); simpa using this⟩⟩
      have hll : LtIs l.length n := ⟨hlt⟩
      have hlc : LtIs c n := ⟨hclt⟩
      repeat (first | refine g_op rfl ?_ | refine g_then ?_ | refine g_nil ?_ | refine g_region ?_ | refine g_seq ?_ | refine g_block ?_ | refine g_skip ?_)
      refine g_joinTo 61 (.bool (decide (TakeP X.blocks l.length c z))) ?_ ?_
      · by_cases e1 : c = l.length
        · rw [decide_eq_false (p := TakeP X.blocks l.length c z) (fun h => h.1 e1)]
          skip
          rw [show (!decide ((c : Int) = (l.length : Int))) = false by simp [e1]]
          repeat (first | refine g_op rfl ?_ | refine g_then ?_ | refine g_nil ?_ | refine g_pass rfl ?_ | refine g_passU rfl ?_)
          exact g_done (by repeat (first | exact trivial | refine ⟨rfl, ?_⟩)) (List.Sublist.refl _)
        · obtain ⟨pb, _, hk1, hk2⟩ := rowP l.length c hlt hclt
          by_cases e2 : Sure X.blocks l.length c
          · rw [decide_eq_true e2] at hk2
            by_cases e3 : z < 0
            · rw [decide_eq_true (p := TakeP X.blocks l.length c z) ⟨e1, e2, .inl e3⟩]
              skip
              rw [show (!decide ((c : Int) = (l.length : Int))) = true by simp; omega]
              repeat (first | refine g_op rfl ?_ | refine g_open ?_)
              rw [decide_eq_true e3]
              repeat (first | refine g_op rfl ?_ | refine g_then ?_ | refine g_nil ?_ | refine g_open ?_ | refine g_pass rfl ?_)
              exact g_done (by repeat (first | exact trivial | refine ⟨rfl, ?_⟩)) (List.Sublist.refl _)
            · obtain ⟨p, rfl, hp⟩ : ∃ p : Nat, z = p ∧ p < c := hzi.2.resolve_left (by omega)
              obtain ⟨pc, _, hk3, hk4⟩ := rowP c p hclt (by omega)
              have hlp : LtIs p n := ⟨by omega⟩
              rw [show decide (TakeP X.blocks l.length c (p : Int)) = decide (Sure X.blocks c p) by
                rw [decide_eq_decide]
                constructor
                · rintro ⟨_, _, h | ⟨q, hq, h⟩⟩
                  · omega
                  · have : p = q := by omega
                    exact this ▸ h
                · exact fun h => ⟨e1, e2, .inr ⟨p, rfl, h⟩⟩]
              skip
              rw [show (!decide ((c : Int) = (l.length : Int))) = true by simp; omega]
              repeat (first | refine g_op rfl ?_ | refine g_open ?_)
              rw [decide_eq_false e3]
              repeat (first | refine g_op rfl ?_ | refine g_then ?_ | refine g_nil ?_)
              exact g_done (by repeat (first | exact trivial | refine ⟨rfl, ?_⟩)) (List.Sublist.refl _)
          · rw [decide_eq_false e2] at hk2
            rw [decide_eq_false (p := TakeP X.blocks l.length c z) (fun h => e2 h.2.1)]
            skip
            rw [show (!decide ((c : Int) = (l.length : Int))) = true by simp; omega]
            repeat (first | refine g_op rfl ?_ | refine g_then ?_ | refine g_nil ?_ | refine g_open ?_ | refine g_pass rfl ?_ | refine g_passU rfl ?_)
            exact g_done (by repeat (first | exact trivial | refine ⟨rfl, ?_⟩)) (List.Sublist.refl _)
      generalize ho : decide (TakeP X.blocks l.length c z) = o
      cases o
      · rw [decide_eq_false_iff_not] at ho
        repeat (first | refine g_then ?_ | refine g_nil ?_ | refine g_region ?_ | refine g_opS rfl ?_ | refine g_inBlock ?_ | refine g_skip ?_ | refine g_condF ?_ | refine g_add rfl (by omega) (by omega) ?_)
        refine g_next (c + 1, z) ⟨hclt, best_stay hz ?_⟩ (by simp only; omega) (by repeat (first | exact trivial | refine ⟨rfl, ?_⟩)) (List.Sublist.refl _)
        by_cases e1 : c = l.length
        · exact .inl e1
        · by_cases e2 : Sure X.blocks l.length c
          · refine .inr (.inr ?_)
            rcases hzi.2 with e3 | ⟨p, rfl, _⟩
            · exact absurd ⟨e1, e2, .inl (by omega)⟩ ho
            · exact ⟨p, rfl, fun h => ho ⟨e1, e2, .inr ⟨p, rfl, h⟩⟩⟩
          · exact .inr (.inl e2)
      · rw [decide_eq_true_eq] at ho
        repeat (first | refine g_op rfl ?_ | refine g_then ?_ | refine g_nil ?_ | refine g_region ?_ | refine g_opS rfl ?_ | refine g_inBlock ?_ | refine g_condT ?_ | refine g_add rfl (by omega) (by omega) ?_)
        exact g_next (c + 1, (c : Int)) ⟨hclt, best_take hz ho.1 ho.2.1 ho.2.2⟩ (by simp only; omega) (by repeat (first | exact trivial | refine ⟨rfl, ?_⟩)) (List.Sublist.refl _)
    · have hge : c = n := by have := h2; simp at this; omega
      repeat (first | refine g_op rfl ?_ | refine g_then ?_ | refine g_region ?_ | refine g_exit ?_ | refine g_thenExit ?_ | refine g_exitHere ?_ | refine g_build1 rfl rfl fun _ _ => ?_)
      refine g_append rfl rfl (by omega) (by omega) fun a' c' => ?_
      rw [show l.map (Value.int .i64) ++ [.int .i64 z] = (l ++ [z]).map (.int .i64) by simp, show l.length + 1 = (l ++ [z]).length by simp]
      repeat (first | refine g_then ?_ | refine g_nil ?_ | refine g_region ?_ | refine g_opS rfl ?_ | refine g_inBlock ?_ | refine g_add rfl (by omega) (by omega) ?_)
      refine g_next (a', c', l ++ [z]) ⟨by simp; omega, bestL_add hbest (by rw [← hn, ← hge]; exact hz)⟩ (by simp; omega) ?_ (List.Sublist.cons _ (List.Sublist.refl _))
      simp only [List.length_append, List.length_singleton, Int.natCast_add]
      exact (by repeat (first | exact trivial | refine ⟨rfl, ?_⟩))
  · have hge : l.length = n := by have := h1; simp at this; omega
    repeat (first | refine g_then ?_ | refine g_seq ?_ | refine g_exit ?_ | refine g_thenExit ?_ | refine g_exitHere ?_)
    refine g_drawW [(4, .slice oa l.length oc), (5, .pointer (some ⟨p5, 0, none⟩))] [Ent.vec oa l.length oc 3 1 (l.map (.int .i64)), Ent.box p5 [.int .i64 0, .int .i64 0] 28] mixed ?_ ?_
    · repeat' (first | refine g_any0 (by decide +kernel) ?_ | refine g_any (by decide +kernel) ?_ | refine any_nil | refine any_skip (by decide +kernel) ?_ | refine any_cons ?_ ?_ | refine g_op rfl ?_ | refine g_then ?_ | refine g_nil ?_ | refine g_storeAgg ?_)
      all_goals exact g_done (by repeat (first | exact trivial | refine ⟨rfl, ?_⟩)) (List.Sublist.cons_cons _ (List.Sublist.cons _ (List.Sublist.cons _ (List.Sublist.cons _ (List.Sublist.refl _)))))
    · repeat (first | refine g_then ?_ | refine g_ret ?_)
      refine g_retTC rfl fun w hw => ⟨(oa, oc, l), ?_, ?_, ?_⟩
      · rw [hge]
      · rw [← hge]
        exact hw.sub (List.Sublist.cons_cons _ (List.nil_sublist _))
      · rw [← hge]; exact hbest
end Go.Proofs.YtbmnkjaelfjlhaaDoor


/- graph.OrderOf, graph.Order, turneryref3.Walk and Order; the law GraphOrders, walked. -/
namespace Go.Proofs.YtbmnkjaelfjlhaaDoor
open Go Go.RowKit
attribute [local irreducible] wpListIn Code.wpIn Exit.then Exit.inBlock bodyPost wpQuiet wpAnyIn
set_option maxHeartbeats 4000000

/-- the list holds what is marked -/
def Rel (n : Nat) (sn : List Bool) (s : List Nat) : Prop := (∀ x ∈ s, x < n) ∧ ∀ x : Nat, x < n → (sn[x]? = some true ↔ x ∈ s)
theorem Rel.add {n b : Nat} {sn : List Bool} {s : List Nat} (h : Rel n sn s) (hl : sn.length = n) (hb : b < n) : Rel n (sn.set b true) (s ++ [b]) := by
  refine ⟨fun x hx => ?_, fun x hx => ?_⟩
  · rcases List.mem_append.1 hx with hx | hx
    · exact h.1 x hx
    · simp only [List.mem_singleton] at hx; omega
  · rw [List.getElem?_set, List.mem_append, List.mem_singleton]
    by_cases e : b = x
    · subst e
      rw [if_pos rfl, if_pos (by omega)]; simp
    · rw [if_neg e, h.2 x hx]
      exact ⟨.inl, fun h => h.resolve_right fun h => e h.symm⟩
end Go.Proofs.YtbmnkjaelfjlhaaDoor

