/- Texts joined: SplitV SplitW SplitX. -/
import Derived.Test.YtbmnkjaelfjlhaaDoorHP
import Derived.Test.YtbmnkjaelfjlhaaDoorHT
import Derived.Test.YtbmnkjaelfjlhaaDoorHW
/- Plain: a unit that is split runs as before, in one or two steps for each step. -/
namespace Go.Proofs.YtbmnkjaelfjlhaaDoor
open Go Go.RowKit

theorem splitU_get (u : LUnit) (k : Nat) : (splitU u).funcs[k]? = (u.funcs[k]?).map splitF := by unfold splitU; simp only [List.getElem?_map]
theorem splitU_regs (u : LUnit) (k : Nat) : regsOf (splitU u) k = regsOf u k := by
  unfold regsOf
  rw [splitU_get]
  cases u.funcs[k]? <;> rfl
theorem splitU_main (u : LUnit) : mainAt (splitU u).funcs = mainAt u.funcs := by
  rw [mainAt_map, mainAt_map]
  unfold splitU
  simp only [List.map_map]
  rfl
theorem fresh_cons (n t : Nat) (e : Nat × Nat) (D : List (Nat × Nat)) : freshL n (e :: D) t = (if e.2 = t then [n] else []) ++ freshL (n + 1) D t := by
  unfold freshL
  rw [List.length_cons, List.range_succ_eq_map, List.filter_cons, List.filter_map]
  have h2 : ((fun j => decide ((((e :: D)[j]?).map Prod.snd) = some t)) ∘ Nat.succ) = fun j => decide (((D[j]?).map Prod.snd) = some t) := by
    funext j
    simp
  rw [h2]
  have h3 : (((List.range D.length).filter fun j => decide (((D[j]?).map Prod.snd) = some t)).map Nat.succ).map (n + ·) = ((List.range D.length).filter fun j => decide (((D[j]?).map Prod.snd) = some t)).map (n + 1 + ·) := by
    rw [List.map_map]
    refine List.map_congr_left fun x _ => ?_
    simp only [Function.comp_apply]
    omega
  by_cases h : e.2 = t
  · simp only [List.getElem?_cons_zero, Option.map_some, h, decide_true, if_true, List.map_cons, h3]
    rfl
  · simp only [List.getElem?_cons_zero, Option.map_some, Option.some.injEq, h, decide_false, Bool.false_eq_true, if_false, h3, List.nil_append]
theorem fresh_align (t : Nat) : ∀ (D : List (Nat × Nat)) (n j : Nat) (e : Nat × Nat), D[j]? = some e → e.2 = t → (inD D t)[(freshL n D t).idxOf (n + j)]? = some e
  | [], _, _, _, h, _ => by simp at h
  | e0 :: D, n, 0, e, h, he => by
    simp only [List.getElem?_cons_zero, Option.some.injEq] at h
    subst h
    rw [fresh_cons, if_pos he, Nat.add_zero]
    unfold inD
    rw [List.filter_cons_of_pos (by simpa using he), List.singleton_append, List.idxOf_cons_self]
    rfl
  | e0 :: D, n, j + 1, e, h, he => by
    simp only [List.getElem?_cons_succ] at h
    have ih := fresh_align t D (n + 1) j e h he
    rw [show n + 1 + j = n + (j + 1) by omega] at ih
    rw [fresh_cons]
    by_cases h0 : e0.2 = t
    · rw [if_pos h0, List.singleton_append, List.idxOf_cons, show (n == n + (j + 1)) = false by simp, cond_false]
      unfold inD at ih ⊢
      rw [List.filter_cons_of_pos (by simpa using h0), List.getElem?_cons_succ]
      exact ih
    · rw [if_neg h0, List.nil_append]
      unfold inD at ih ⊢
      rw [List.filter_cons_of_neg (by simpa using h0)]
      exact ih
section
variable {bl : List LBlock} {D : List (Nat × Nat)}
theorem src_stay (hg : GoodB bl) {t q : Nat} (ht : t < bl.length) (hq : q ∈ stay bl D t) (p : LPhi) : (phD bl D t p).src.getD ((preds (splitD bl D) t).idxOf q) noV = srcAt bl t p q := by
  have hl := List.idxOf_lt_length_of_mem hq
  rw [preds_split hg ht, List.idxOf_append, if_pos hq]
  unfold phD
  simp only
  rw [List.getD_eq_getElem?_getD, List.getElem?_append_left (by rw [List.length_map]; exact hl), List.getElem?_map, List.getElem?_eq_getElem hl, List.getElem_idxOf]
  rfl
theorem src_fresh (hg : GoodB bl) {t j : Nat} {e : Nat × Nat} (ht : t < bl.length) (he : D[j]? = some e) (het : e.2 = t) (p : LPhi) : (phD bl D t p).src.getD ((preds (splitD bl D) t).idxOf (bl.length + j)) noV = srcAt bl t p e.1 := by
  have hn : bl.length + j ∉ stay bl D t := fun h => by
    have := List.mem_range.1 (List.mem_filter.1 (List.mem_filter.1 h).1).1
    omega
  rw [preds_split hg ht, List.idxOf_append, if_neg hn]
  unfold phD
  simp only
  rw [List.getD_eq_getElem?_getD, List.getElem?_append_right (by rw [List.length_map]; omega), List.length_map, Nat.add_sub_cancel, List.getElem?_map, fresh_align t D bl.length j e he het]
  rfl
end
theorem phisM_same {f g : Frm} {k k' : Nat} {ps : List LPhi} {F : LPhi → LPhi} (hr : g.regs = f.regs) (hd : ∀ p ∈ ps, (F p).dst = p.dst) (hs : ∀ p ∈ ps, (F p).src.getD k' noV = p.src.getD k noV) : phisM g k' (ps.map F) = phisM f k ps := by
  rw [phisM_all, phisM_all, hr, List.map_map]
  congr 1
  refine List.map_congr_left fun p hp => ?_
  simp only [Function.comp_apply]
  rw [hd p hp, hs p hp]
  unfold valM
  rw [hr]
abbrev FRs (d e : Int) (f g : Frm) : Prop := g = f ∧ e = d
abbrev FTs (f g : Frm) : Prop := g = f
def RelS (u : LUnit) (s t : Mac) : Prop := MacOk u (s.steps + 1) s ∧ RelM FRs FTs s t
theorem split_sim {u : LUnit} (hu : UnitFit u) (hc : CheckOk u) : Sim u (splitU u) 1 2 (RelS u) := by
  intro s t ⟨hok, hrel⟩
  obtain ⟨X, R, hf⟩ := hok.top
  obtain ⟨B, hB⟩ : ∃ B, X.blocks[s.top.block]? = some B := ⟨_, List.getElem?_eq_getElem hf.block⟩
  have hBm := List.mem_of_getElem? hB
  have hfit := hf.fit.blk B hBm
  have hgood := hf.fit.ok.good
  have hbok := hf.fit.ok.block _ B hB
  have hbody := hc.body X (List.mem_of_getElem? hf.get)
  obtain ⟨D, hD⟩ : ∃ D, D = critAll X.blocks := ⟨_, rfl⟩
  have hY : (splitU u).funcs[s.top.fn]? = some (splitF X) := by rw [splitU_get, hf.get]; rfl
  have hYb : (splitF X).blocks = splitD X.blocks D := by rw [hD]; rfl
  have hbl : blsOf (splitU u) s.top.fn = splitD X.blocks D := by unfold blsOf; rw [hY]; exact hYb
  have hblu : blsOf u s.top.fn = X.blocks := by unfold blsOf; rw [hf.get]
  have hC : (splitD X.blocks D)[s.top.block]? = some (blkD X.blocks D s.top.block B) := by rw [splitD_lt hf.block, hB]; rfl
  obtain ⟨hm, hi, ho, hst, htop⟩ := hrel
  have hbu := blockM_eq hf hB
  have hbv : blockM (splitU u) t.top = blkD X.blocks D s.top.block B := by
    unfold blockM
    rw [htop, hY]
    simp only
    rw [hYb, List.getD_eq_getElem?_getD, hC]
    rfl
  have hll := hst.len
  cases hx : B.list[s.top.at']? with
  | some x =>
    have hsu : stepM u s = insM u (goOn (tick s)) x := by rw [stepM_eq, hbu]; simp only [hx]
    have hxm := List.mem_of_getElem? hx
    have hDx : (blkD X.blocks D s.top.block B).list[t.top.at']? = some x := by rw [htop]; exact hx
    have hsv : stepM (splitU u) t = insM (splitU u) (goOn (tick t)) x := by rw [stepM_eq, hbv]; simp only [hDx]
    obtain ⟨_, _, _, ud⟩ := vals_used (hbody.list _ B hB x hxm)
    have hgt : (goOn (tick t)).top = (goOn (tick s)).top := by unfold goOn tick; simp only [htop]
    rcases ins_sim (u := u) (v := splitU u) (s := goOn (tick s)) (t := goOn (tick t)) (x := x) (y := x) rfl rfl (by rw [hgt]) (by rw [hgt]) (fun _ => by rw [hgt]) hm hi ho hll ud ud with ⟨f, g, e1, e2, ha⟩ | ⟨h20, e1, e2⟩ | ⟨h20, mem, inp, out, z, e1, e2⟩
    · refine ⟨fun s' hs' => ?_, fun f' hf' => ?_⟩
      · rw [hsu, e1] at hs'; cases hs'
      · rw [hsu, e1] at hf'
        rw [← Sum.inr.inj hf']
        exact ⟨0, t, g, by omega, by omega, rfl, by rw [hsv, e2], ha⟩
    · refine ⟨fun s' hs' => ?_, fun f' hf' => ?_⟩
      · have h9 := (step_ok hu hok hs').1
        rw [hsu, e1] at hs'
        have hs' := Sum.inl.inj hs'
        refine ⟨1, _, by omega, by omega, .one (by rw [hsv, e2]), h9, ?_⟩
        rw [← hs', enterM_def, enterM_def, splitU_regs]
        refine ⟨hm, hi, ho, ?_, ?_⟩
        · exact .add hst ⟨hgt, rfl⟩
        · rfl
      · rw [hsu, e1] at hf'; cases hf'
    · refine ⟨fun s' hs' => ?_, fun f' hf' => ?_⟩
      · have h9 := (step_ok hu hok hs').1
        rw [hsu, e1] at hs'
        have hs' := Sum.inl.inj hs'
        refine ⟨1, _, by omega, by omega, .one (by rw [hsv, e2]), h9, ?_⟩
        rw [← hs']
        exact ⟨rfl, rfl, rfl, hst, by show (goOn (tick t)).top.set x.dst z = (goOn (tick s)).top.set x.dst z; rw [hgt]⟩
      · rw [hsu, e1] at hf'; cases hf'
  | none =>
    have hsu : stepM u s = endM u (tick s) B := by rw [stepM_eq, hbu]; simp only [hx]
    have hDn : (blkD X.blocks D s.top.block B).list[t.top.at']? = none := by rw [htop]; exact hx
    have hsv : stepM (splitU u) t = endM (splitU u) (tick t) (blkD X.blocks D s.top.block B) := by rw [stepM_eq, hbv]; simp only [hDn]
    have hval : valM t.top (blkD X.blocks D s.top.block B).on = valM s.top B.on := by rw [htop]; rfl
    have hdst : t.top.dst = s.top.dst := by rw [htop]
    by_cases hkj : B.kind = 2 ∨ B.kind = 3
    · obtain ⟨i, hil, e1, e2⟩ := jump_sim (u := u) (v := splitU u) (s := tick s) (t := tick t) (C := blkD X.blocks D s.top.block B) hkj rfl hfit.kind.2 hval
      have htm := to_get (B := B) hil
      obtain ⟨to, T, e, hg⟩ := goTo hf hB htm
      have hton : to < X.blocks.length := (List.getElem?_eq_some_iff.1 hg.get).1
      have hCi : (blkD X.blocks D s.top.block B).to.getD i 0 = frTo X.blocks.length D s.top.block (to : Int) := by
        unfold blkD
        simp only
        rw [List.getD_eq_getElem?_getD, List.getElem?_map, List.getElem?_eq_getElem hil, Option.map_some, Option.getD_some]
        rw [List.getD_eq_getElem?_getD, List.getElem?_eq_getElem hil, Option.getD_some] at e
        rw [e]
      rw [e] at e1
      rw [hCi] at e2
      have hTS : (splitD X.blocks D)[to]? = some (blkD X.blocks D to T) := by rw [splitD_lt hton, hg.get]; rfl
      have hphi : phisOf (blsOf u s.top.fn) to = T.phis := by rw [hblu]; unfold phisOf; rw [hg.get]
      have hphiv : phisOf (blsOf (splitU u) s.top.fn) to = T.phis.map (phD X.blocks D to) := by rw [hbl]; unfold phisOf; rw [hTS]; rfl
      refine ⟨fun s' hs' => ?_, fun f' hf' => ?_⟩
      · have h9 := (step_ok hu hok hs').1
        rw [hsu, e1] at hs'
        have hs' := Sum.inl.inj hs'
        by_cases hin : (s.top.block, to) ∈ D
        · have hjl := List.idxOf_lt_length_of_mem hin
          have hfr : frTo X.blocks.length D s.top.block (to : Int) = ((X.blocks.length + D.idxOf (s.top.block, to) : Nat) : Int) := by unfold frTo; rw [Int.toNat_natCast, if_pos hin]
          have hDj : D[D.idxOf (s.top.block, to)]? = some (s.top.block, to) := by rw [List.getElem?_eq_getElem hjl, List.getElem_idxOf]
          generalize D.idxOf (s.top.block, to) = j at *
          rw [hfr] at e2
          have hFS : (splitD X.blocks D)[X.blocks.length + j]? = some (jumpB to) := by rw [splitD_ge, hDj]; rfl
          have hphf : phisOf (blsOf (splitU u) s.top.fn) (X.blocks.length + j) = [] := by rw [hbl]; unfold phisOf; rw [hFS]; rfl
          obtain ⟨t1, ht1⟩ : ∃ t1, t1 = jumpM (splitU u) (tick t) ((X.blocks.length + j : Nat) : Int) := ⟨_, rfl⟩
          have ht1d := ht1
          rw [jumpM_def] at ht1d
          have ht1r : t1.top.regs = s.top.regs := by
            rw [ht1d]
            show phisM t.top _ (phisOf (blsOf (splitU u) t.top.fn) (((X.blocks.length + j : Nat) : Int)).toNat) = s.top.regs
            rw [htop, Int.toNat_natCast, hphf]
            rfl
          have ht1f : t1.top.fn = s.top.fn := by rw [ht1d]; show t.top.fn = _; rw [htop]
          have ht1b : t1.top.block = X.blocks.length + j := by rw [ht1d]; exact Int.toNat_natCast _
          have ht1a : t1.top.at' = 0 := by rw [ht1d]
          have ht1s : t1.top.dst = s.top.dst := by rw [ht1d]; show t.top.dst = _; rw [htop]
          have hb1 : blockM (splitU u) t1.top = jumpB to := by
            unfold blockM
            rw [ht1f, hY]
            simp only
            rw [hYb, ht1b, List.getD_eq_getElem?_getD, hFS]
            rfl
          have hst2 : stepM (splitU u) t1 = .inl (jumpM (splitU u) (tick t1) (to : Int)) := by
            rw [stepM_eq, hb1]
            rfl
          refine ⟨2, _, by omega, by omega, Goes.trans (k := 1) (.one (show stepM (splitU u) t = .inl t1 by rw [hsv, e2, ht1])) (.one hst2), h9, ?_⟩
          rw [← hs', jumpM_def, jumpM_def]
          refine ⟨?_, ?_, ?_, ?_, ?_⟩
          · show t1.mem = s.mem; rw [ht1d]; exact hm
          · show t1.inp = s.inp; rw [ht1d]; exact hi
          · show t1.out = s.out; rw [ht1d]; exact ho
          · show Stk FRs s.rest t1.rest s.top.dst t1.top.dst
            rw [ht1s, ht1d]
            show Stk FRs s.rest t.rest s.top.dst s.top.dst
            rw [hdst] at hst
            exact hst
          · show ({ t1.top with regs := phisM t1.top ((preds (blsOf (splitU u) t1.top.fn) (to : Int).toNat).idxOf t1.top.block) (phisOf (blsOf (splitU u) t1.top.fn) (to : Int).toNat), block := (to : Int).toNat, at' := 0 } : Frm) = { s.top with regs := phisM s.top ((preds (blsOf u s.top.fn) (to : Int).toNat).idxOf s.top.block) (phisOf (blsOf u s.top.fn) (to : Int).toNat), block := (to : Int).toNat, at' := 0 }
            rw [ht1f, ht1b, Int.toNat_natCast, hphi, hphiv, hbl, hblu]
            have h7 := phisM_same (f := s.top) (g := t1.top) (k := (preds X.blocks to).idxOf s.top.block) (k' := (preds (splitD X.blocks D) to).idxOf (X.blocks.length + j)) (ps := T.phis) (F := phD X.blocks D to) ht1r (fun p _ => rfl) fun p _ => src_fresh hgood hton hDj rfl p
            rw [h7]
            simp only [ht1f, ht1s]
        · have hfr : frTo X.blocks.length D s.top.block (to : Int) = (to : Int) := by unfold frTo; rw [Int.toNat_natCast, if_neg hin]
          rw [hfr] at e2
          have hstay : s.top.block ∈ stay X.blocks D to := List.mem_filter.2 ⟨hg.mem, by simpa using hin⟩
          refine ⟨1, _, by omega, by omega, .one (by rw [hsv, e2]), h9, ?_⟩
          rw [← hs', jumpM_def, jumpM_def]
          refine ⟨hm, hi, ho, hst, ?_⟩
          show ({ t.top with regs := phisM t.top ((preds (blsOf (splitU u) t.top.fn) (to : Int).toNat).idxOf t.top.block) (phisOf (blsOf (splitU u) t.top.fn) (to : Int).toNat), block := (to : Int).toNat, at' := 0 } : Frm) = { s.top with regs := phisM s.top ((preds (blsOf u s.top.fn) (to : Int).toNat).idxOf s.top.block) (phisOf (blsOf u s.top.fn) (to : Int).toNat), block := (to : Int).toNat, at' := 0 }
          rw [htop, Int.toNat_natCast, hphi, hphiv, hbl, hblu]
          have h7 := phisM_same (f := s.top) (g := s.top) (k := (preds X.blocks to).idxOf s.top.block) (k' := (preds (splitD X.blocks D) to).idxOf s.top.block) (ps := T.phis) (F := phD X.blocks D to) rfl (fun p _ => rfl) fun p _ => src_stay hgood hton hstay p
          rw [h7]
      · rw [hsu, e1] at hf'; cases hf'
    · rcases ret_sim (u := u) (v := splitU u) (FR := FRs) (s := tick s) (t := tick t) (C := blkD X.blocks D s.top.block B) (fun h => hkj (.inl h)) (fun h => hkj (.inr h)) rfl hval ho hst with ⟨f, g, e1, e2, ha⟩ | ⟨l, f, m, g, d1, d2, e1, e2, d3, d4⟩
      · refine ⟨fun s' hs' => ?_, fun f' hf' => ?_⟩
        · rw [hsu, e1] at hs'; cases hs'
        · rw [hsu, e1] at hf'
          rw [← Sum.inr.inj hf']
          exact ⟨0, t, g, by omega, by omega, rfl, by rw [hsv, e2], ha⟩
      · refine ⟨fun s' hs' => ?_, fun f' hf' => ?_⟩
        · have h9 := (step_ok hu hok hs').1
          rw [hsu, e1] at hs'
          have hs' := Sum.inl.inj hs'
          refine ⟨1, _, by omega, by omega, .one (by rw [hsv, e2]), h9, ?_⟩
          rw [← hs']
          obtain ⟨rfl, _⟩ := d4
          refine ⟨hm, hi, ho, d3, ?_⟩
          show g.set t.top.dst (valM s.top B.on) = g.set s.top.dst (valM s.top B.on)
          rw [hdst]
        · rw [hsu, e1] at hf'; cases hf'
theorem split_runs {u : LUnit} (hu : UnitFit u) (hs : StartOk u) (hc : CheckOk u) (inp : List Int) (f m : Nat) (hin : ∀ x ∈ inp, inI x) (h1 : (resultM u inp f).state ≠ 1) (hm : 2 * f ≤ m) :
    Alike (resultM u inp f) (resultM (splitU u) inp m) ∧ (resultM u inp f).steps ≤ (resultM (splitU u) inp m).steps ∧ (resultM (splitU u) inp m).steps ≤ 2 * (resultM u inp f).steps := by
  have e1 : ∀ v : LUnit, startM v inp = ⟨memL v.globals, inp, [], 0, [], ⟨(mainAt v.funcs).toNat, 0, 0, List.replicate (regsOf v (mainAt v.funcs).toNat) 0, -1⟩, bump (v.funcs.map fun X => List.replicate X.blocks.length 0) (mainAt v.funcs).toNat 0⟩ := fun _ => rfl
  obtain ⟨h2, i, j, h3, h4, h5, h6⟩ := sim_run (split_sim hu hc) f (startM u inp) (startM (splitU u) inp) m ⟨start_ok hu hs hin, by
    rw [e1, e1, splitU_main, splitU_regs]
    exact ⟨rfl, rfl, rfl, .nil _ _, rfl⟩⟩ h1 hm
  refine ⟨h2, ?_⟩
  have e2 : (startM u inp).steps = 0 := rfl
  have e3 : (startM (splitU u) inp).steps = 0 := rfl
  unfold resultM
  omega
end Go.Proofs.YtbmnkjaelfjlhaaDoor


/- Plain: a unit that is split passes the check, if none of its functions is large; it has nothing left to split. -/
namespace Go.Proofs.YtbmnkjaelfjlhaaDoor
open Go Go.RowKit

structure EndOk (n : Nat) (R : Int) (B : LBlock) : Prop where
  kind : 1 ≤ B.kind ∧ B.kind ≤ 3
  len : (B.to.length : Int) = B.kind - 1
  to : ∀ t ∈ B.to, 1 ≤ t ∧ t ≤ (n : Int) - 1
  two : B.kind = 3 → B.to[0]?.getD 0 ≠ B.to[1]?.getD 0
  one : B.kind = 2 → noVal B.on = true
  on : valErr R B.on = 0
theorem end_zero {n : Nat} {R : Int} {B : LBlock} : endErr n R B = 0 ↔ EndOk n R B := by
  unfold endErr endE
  constructor
  · intro h
    split at h
    · cases h
    rename_i h1
    split at h
    · cases h
    rename_i h2
    split at h
    · cases h
    rename_i h3
    split at h
    · cases h
    rename_i h4
    simp only [within, Bool.not_eq_true', Bool.and_eq_false_iff, decide_eq_false_iff_not, not_or, Decidable.not_not] at h1
    simp only [Bool.or_eq_true, Bool.and_eq_true, decide_eq_true_eq, Bool.not_eq_true', not_or, not_and, Bool.not_eq_false] at h4
    refine ⟨by omega, by simpa using h2, fun t ht => ?_, h4.1, h4.2, h⟩
    simp only [List.any_eq_true, not_exists, not_and, within, Bool.not_eq_true', Bool.and_eq_false_iff, decide_eq_false_iff_not, not_or, Decidable.not_not] at h3
    have := h3 t ht
    omega
  · intro h
    rw [if_neg, if_neg, if_neg, if_neg]
    · exact h.on
    · simp only [Bool.or_eq_true, Bool.and_eq_true, decide_eq_true_eq, Bool.not_eq_true', not_or, not_and, Bool.not_eq_false]
      exact ⟨h.two, h.one⟩
    · simp only [List.any_eq_true, not_exists, not_and, within, Bool.not_eq_true', Bool.and_eq_false_iff, decide_eq_false_iff_not, not_or, Decidable.not_not]
      exact h.to
    · simpa using h.len
    · simp only [within, Bool.not_eq_true', Bool.and_eq_false_iff, decide_eq_false_iff_not, not_or, Decidable.not_not]
      exact h.kind
theorem splitD_end {bl : List LBlock} {D : List (Nat × Nat)} {R : Int} (hg : GoodB bl) (hD : DOk bl D) (hnd : ∀ (b : Nat) B, bl[b]? = some B → B.to.Nodup) (h : ∀ B ∈ bl, EndOk bl.length R B) : ∀ C ∈ splitD bl D, EndOk (splitD bl D).length R C := fun C hC => by
  obtain ⟨c, hc⟩ := List.getElem?_of_mem hC
  have hn2 := splitD_nodup (D := D) hg hnd c C hc
  rw [splitD_len]
  rcases splitD_mem hc with ⟨B, hcl, hB, rfl⟩ | ⟨j, e, rfl, he, rfl⟩
  · have hb := h B (List.mem_of_getElem? hB)
    refine ⟨hb.kind, by unfold blkD; simp only [List.length_map]; exact hb.len, fun t ht => ?_, fun h3 e => ?_, hb.one, hb.on⟩
    · unfold blkD at ht
      simp only at ht
      obtain ⟨x, hx, rfl⟩ := List.mem_map.1 ht
      have := hb.to x hx
      unfold frTo
      split
      · rename_i h4
        have := List.idxOf_lt_length_of_mem h4
        omega
      · omega
    · have hl : (blkD bl D c B).to.length = 2 := by
        have := hb.len
        have h3' : B.kind = 3 := h3
        unfold blkD
        simp only [List.length_map]
        omega
      rw [List.getElem?_eq_getElem (show 0 < (blkD bl D c B).to.length by omega), List.getElem?_eq_getElem (show 1 < (blkD bl D c B).to.length by omega)] at e
      simp only [Option.getD_some] at e
      have := (List.getElem_inj hn2).1 e
      omega
  · have hE := hD.edge e (List.mem_of_getElem? he)
    have hEo := edge_of hg hE
    have h1 : 1 ≤ (e.2 : Int) := by
      unfold Edge toOf at hE
      split at hE
      · rename_i B hB
        exact ((h B (List.mem_of_getElem? hB)).to _ hE).1
      · cases hE
    refine ⟨⟨by simp [jumpB], by simp [jumpB]⟩, by simp [jumpB], fun t ht => ?_, fun h3 => by simp [jumpB] at h3, fun _ => rfl, rfl⟩
    simp only [jumpB, List.mem_singleton] at ht
    omega
theorem splitF_to {u : LUnit} (hc : CheckOk u) {i : Nat} {X : LFunc} (hX : u.funcs[i]? = some X) (hL : largeF (splitF X) = false) : FnTo u.funcs X (splitF X) := by
  have hs := FnTo.same hc hX
  have hb := hs.body
  obtain ⟨R, hXR, hR, hf⟩ := check_func (check_zero.2 hc) hX
  have hg := hf.good
  have hnd : ∀ (b : Nat) B, X.blocks[b]? = some B → B.to.Nodup := fun b B hB => (hf.block b B hB).to
  have hD := critTo_ok hg (toOf_nodup hnd) X.blocks.length 0 (Nat.zero_le _)
  have hYb : (splitF X).blocks = splitD X.blocks (critAll X.blocks) := rfl
  have hDc : DOk X.blocks (critAll X.blocks) := hD
  unfold largeF largeL at hL
  simp only [Bool.or_eq_false_iff, decide_eq_false_iff_not, hYb] at hL
  have hms := many_size (splitD X.blocks (critAll X.blocks))
  refine ⟨rfl, rfl, hs.regs, by rw [hYb]; have := hs.many; have := splitD_len X.blocks (critAll X.blocks); omega, by rw [hYb]; omega, ?_, ?_, ?_⟩
  · intro C hC
    rw [hYb] at hC ⊢
    exact end_zero.2 (splitD_end hg hDc hnd (fun B hB => end_zero.1 (hb.ends B hB)) C hC)
  · intro c C hC p' hp'
    rw [hYb] at hC ⊢
    rcases splitD_mem hC with ⟨B, hcl, hB, rfl⟩ | ⟨j, e, rfl, he, rfl⟩
    · unfold blkD at hp'
      simp only at hp'
      obtain ⟨p, hp, rfl⟩ := List.mem_map.1 hp'
      have h0 := hb.phis c B hB p hp
      have hpo := (hf.block c B hB).phis p hp
      unfold phiErr phiE at h0 ⊢
      rw [aheadL_get (splitD_good hg hDc) (splitD_nodup hg hnd) (by rw [splitD_len]; omega)]
      split at h0
      · cases h0
      rename_i h1
      split at h0
      · rename_i h2; exact absurd h0 h2
      rename_i h2
      split at h0
      · cases h0
      have h4 := at0_all h0
      rw [show (splitF X).regs = X.regs from rfl, show (phD X.blocks (critAll X.blocks) c p).dst = p.dst from rfl, if_neg h1, if_neg h2, if_neg]
      · rw [firstI_zero']
        intro j hj
        unfold at0
        rw [List.getElem?_eq_getElem hj]
        simp only
        have hm : (phD X.blocks (critAll X.blocks) c p).src[j] ∈ (phD X.blocks (critAll X.blocks) c p).src := List.getElem_mem _
        generalize (phD X.blocks (critAll X.blocks) c p).src[j] = v at hm
        unfold phD at hm
        simp only at hm
        rcases List.mem_append.1 hm with hv | hv
        · obtain ⟨x, hx, rfl⟩ := List.mem_map.1 hv
          exact h4 _ (srcAt_mem (R := R) hpo.len (List.mem_filter.1 hx).1)
        · obtain ⟨x, hx, rfl⟩ := List.mem_map.1 hv
          exact h4 _ (srcAt_mem (R := R) hpo.len (inD_pred hg hDc hx).1)
      · rw [Option.getD_some, List.length_map, phD_len hg hDc, preds_len hg hDc hcl]
        simp
    · simp [jumpB] at hp'
  · intro c C hC x hx
    rw [hYb] at hC
    rcases splitD_mem hC with ⟨B, hcl, hB, rfl⟩ | ⟨j, e, rfl, he, rfl⟩
    · exact hb.list c B hB x hx
    · simp [jumpB] at hx
theorem splitU_whole {u : LUnit} (hu : Whole u) (hL : ∀ X ∈ u.funcs, largeF (splitF X) = false) : Whole (splitU u) := by
  refine ⟨check_map hu.ok rfl (by unfold splitU; rw [List.length_map]) fun i X Y hX hY => ?_, fun Y hY C hC => ?_, hu.gnums⟩
  · rw [splitU_get, hX] at hY
    obtain rfl := Option.some.inj hY
    exact splitF_to hu.ok hX (hL X (List.mem_of_getElem? hX))
  · unfold splitU at hY
    obtain ⟨X, hX, rfl⟩ := List.mem_map.1 hY
    obtain ⟨c, hc⟩ := List.getElem?_of_mem hC
    have hn0 := hu.nums X hX
    rcases splitD_mem hc with ⟨B, hcl, hB, rfl⟩ | ⟨j, e, rfl, he, rfl⟩
    · have hn := hn0 B (List.mem_of_getElem? hB)
      refine ⟨hn.on, fun q hq v hv => ?_, hn.list⟩
      unfold blkD at hq
      simp only at hq
      obtain ⟨p, hp, rfl⟩ := List.mem_map.1 hq
      have key : ∀ x, inI (srcAt X.blocks c p x).n := fun x => by
        unfold srcAt
        rw [List.getD_eq_getElem?_getD]
        cases hz : p.src[(preds X.blocks c).idxOf x]? with
        | none => exact ⟨by simp [noV], by simp [noV]⟩
        | some z => exact hn.phis p hp z (List.mem_of_getElem? hz)
      unfold phD at hv
      simp only at hv
      rcases List.mem_append.1 hv with hv | hv
      · obtain ⟨x, _, rfl⟩ := List.mem_map.1 hv
        exact key x
      · obtain ⟨x, _, rfl⟩ := List.mem_map.1 hv
        exact key x.1
    · exact ⟨show inI (0 : Int) from ⟨by omega, by omega⟩, by simp [jumpB], by simp [jumpB]⟩

/-! ### Nothing is left to split -/
theorem crit_mem {bl : List LBlock} (hg : GoodB bl) {b : Nat} {t : Int} (h : t ∈ toOf bl b) (hc : critP bl b t = true) : (b, t.toNat) ∈ critAll bl := by
  unfold critAll critTo
  refine List.mem_append_left _ (List.mem_flatMap.2 ⟨b, List.mem_range.2 (edge_of hg h).2.2, ?_⟩)
  unfold edgesTo
  rw [List.take_length]
  exact List.mem_map.2 ⟨t, List.mem_filter.2 ⟨h, hc⟩, rfl⟩
theorem len_one {l : List Nat} {a : Nat} (hn : l.Nodup) (h : ∀ x ∈ l, x = a) : l.length ≤ 1 := by
  match l, hn, h with
  | [], _, _ => simp
  | [_], _, _ => simp
  | x :: y :: l, hn, h =>
    have h1 := h x (by simp)
    have h2 := h y (by simp)
    rw [h1, h2] at hn
    simp at hn
theorem preds_fresh {bl : List LBlock} {D : List (Nat × Nat)} (hg : GoodB bl) (hD : DOk bl D) (j : Nat) : (preds (splitD bl D) (bl.length + j)).length ≤ 1 := by
  cases hj : D[j]? with
  | none =>
    have : preds (splitD bl D) (bl.length + j) = [] := by
      unfold preds
      refine List.filter_eq_nil_iff.2 fun q hq => ?_
      simp only [decide_eq_true_eq]
      intro hm
      have := (edge_of (splitD_good hg hD) hm).2.1
      rw [splitD_len] at this
      have := List.getElem?_eq_none_iff.1 hj
      omega
    rw [this]
    simp
  | some e =>
    refine len_one (a := e.1) (preds_nodup _ _) fun q hq => ?_
    have hq2 := (List.mem_filter.1 hq).2
    simp only [decide_eq_true_eq] at hq2
    by_cases hql : q < bl.length
    · rw [toOf_lt hql] at hq2
      obtain ⟨t, ht, e2⟩ := List.mem_map.1 hq2
      have hto := edge_of hg ht
      unfold frTo at e2
      split at e2
      · rename_i hin
        have hl := List.idxOf_lt_length_of_mem hin
        have h3 : D.idxOf (q, t.toNat) = j := by omega
        have h4 : D[D.idxOf (q, t.toNat)]? = some (q, t.toNat) := by rw [List.getElem?_eq_getElem hl, List.getElem_idxOf]
        rw [h3, hj] at h4
        have := Option.some.inj h4
        rw [this]
      · omega
    · obtain ⟨i, rfl⟩ : ∃ i, q = bl.length + i := ⟨q - bl.length, by omega⟩
      unfold toOf at hq2
      rw [splitD_ge] at hq2
      cases hi : D[i]? with
      | none => rw [hi] at hq2; cases hq2
      | some e' =>
        rw [hi] at hq2
        simp only [Option.map_some, jumpB, List.mem_singleton] at hq2
        have := edge_of hg (hD.edge e' (List.mem_of_getElem? hi))
        omega
theorem noCrit {bl : List LBlock} (hg : GoodB bl) (hnd : ∀ (b : Nat) B, bl[b]? = some B → B.to.Nodup) {b : Nat} {t : Int} (ht : t ∈ toOf (splitD bl (critAll bl)) b) (hl : 1 < (toOf (splitD bl (critAll bl)) b).length) : (preds (splitD bl (critAll bl)) t.toNat).length ≤ 1 := by
  have hD : DOk bl (critAll bl) := critTo_ok hg (toOf_nodup hnd) bl.length 0 (Nat.zero_le _)
  by_cases hb : b < bl.length
  · rw [toOf_lt hb] at ht hl
    rw [List.length_map] at hl
    obtain ⟨x, hx, rfl⟩ := List.mem_map.1 ht
    have hxo := edge_of hg hx
    unfold frTo
    split
    · rw [Int.toNat_natCast]
      exact preds_fresh hg hD _
    · rename_i hin
      have hcr : critP bl b x = false := by
        cases e : critP bl b x with
        | false => rfl
        | true => exact absurd (crit_mem hg hx e) hin
      rw [preds_len hg hD (by omega)]
      unfold critP at hcr
      rw [decide_eq_true hl, Bool.true_and, decide_eq_false_iff_not] at hcr
      omega
  · exfalso
    obtain ⟨j, rfl⟩ : ∃ j, b = bl.length + j := ⟨b - bl.length, by omega⟩
    unfold toOf at hl
    rw [splitD_ge] at hl
    cases hj : (critAll bl)[j]? with
    | none => rw [hj] at hl; simp at hl
    | some e => rw [hj] at hl; simp [jumpB] at hl
theorem crit_none {bl : List LBlock} (h : ∀ (b : Nat) (t : Int), t ∈ toOf bl b → 1 < (toOf bl b).length → (preds bl t.toNat).length ≤ 1) : critAll bl = [] := by
  have h1 : ∀ b i, edgesTo bl b i = [] := fun b i => by
    unfold edgesTo
    rw [List.filter_eq_nil_iff.2 fun t ht => ?_]
    · rfl
    · unfold critP
      simp only [Bool.and_eq_true, decide_eq_true_eq, not_and]
      intro h2
      have := h b t (List.mem_of_mem_take ht) h2
      omega
  unfold critAll critTo
  rw [h1, List.append_nil]
  exact List.flatMap_eq_nil_iff.2 fun c _ => h1 c _
theorem splitF_crit {R : Nat} {X : LFunc} (hf : FuncOk R X.blocks) : critAll (splitF X).blocks = [] :=
  crit_none fun b t ht hl => noCrit hf.good (fun b B hB => (hf.block b B hB).to) ht hl
theorem splitF_again {R : Nat} {X : LFunc} (hf : FuncOk R X.blocks) : splitF (splitF X) = splitF X := by
  have hnd : ∀ (b : Nat) B, X.blocks[b]? = some B → B.to.Nodup := fun b B hB => (hf.block b B hB).to
  have hD : DOk X.blocks (critAll X.blocks) := critTo_ok hf.good (toOf_nodup hnd) X.blocks.length 0 (Nat.zero_le _)
  have hf2 := splitD_funcOk hf hD
  have h1 : (splitF X).blocks = splitD X.blocks (critAll X.blocks) := rfl
  have h3 : splitD (splitF X).blocks [] = (splitF X).blocks := splitD_nil fun t T hT p hp => ((hf2.block t T (by rw [← h1]; exact hT)).phis p hp).len
  show putB (splitF X) (splitD (splitF X).blocks (critAll (splitF X).blocks)) = splitF X
  rw [splitF_crit hf, h3]
  rfl
/-- all that is known of a unit that is split -/
theorem splitU_again {u : LUnit} (hu : Whole u) (hL : ∀ X ∈ u.funcs, largeF (splitF X) = false) : Fine (splitU u) ∧ (∀ Y ∈ (splitU u).funcs, largeF (splitF Y) = false) ∧ splitU (splitU u) = splitU u := by
  have hw := splitU_whole hu hL
  have hF : ∀ X ∈ u.funcs, ∃ R, FuncOk R X.blocks := fun X hX => by
    obtain ⟨k, hk⟩ := List.getElem?_of_mem hX
    obtain ⟨R, _, _, hf⟩ := check_func (check_zero.2 hu.ok) hk
    exact ⟨R, hf⟩
  have hl2 := check_light hw.ok
  refine ⟨⟨hl2, fun Y hY => ?_⟩, fun Y hY => ?_, ?_⟩
  · have h1 := (hl2.2 Y hY).1
    unfold splitU at hY
    obtain ⟨X, hX, rfl⟩ := List.mem_map.1 hY
    obtain ⟨R, hf⟩ := hF X hX
    rw [splitF_crit hf]
    simp only [List.length_nil]
    omega
  · unfold splitU at hY
    obtain ⟨X, hX, rfl⟩ := List.mem_map.1 hY
    obtain ⟨R, hf⟩ := hF X hX
    rw [splitF_again hf]
    exact hL X hX
  · unfold splitU
    simp only [List.map_map]
    congr 1
    refine List.map_congr_left fun X hX => ?_
    obtain ⟨R, hf⟩ := hF X hX
    exact splitF_again hf
end Go.Proofs.YtbmnkjaelfjlhaaDoor


/- The law GraphSteps: after graph.Split every run ends as before, in at most twice as many steps. -/
namespace Go.Proofs.YtbmnkjaelfjlhaaDoor
open Go Go.RowKit
attribute [local irreducible] wpListIn Code.wpIn Exit.then Exit.inBlock bodyPost wpQuiet wpAnyIn wpAnyH bodyPostM oneH
set_option maxHeartbeats 4000000

theorem split_comes {u : LUnit} (hu : Whole u) (hL : ∀ X ∈ u.funcs, largeF (splitF X) = false) {inp : List Int} (hin : ∀ x ∈ inp, inI x) {f m : Nat} (hc : (countsE u inp.length f).1 = 0) (hs : (resultM u inp f).state ≠ 1) (hf : 2 * f ≤ m) (hm : m ≤ 100000) : Comes u (splitU u) inp f m := by
  obtain ⟨_, hil, _⟩ := countsE_zero hc
  obtain ⟨h1, _⟩ := split_runs hu.fit hu.start hu.ok inp f m hin hs hf
  refine ⟨?_, h1.state, h1.value, h1.out⟩
  unfold countsE
  rw [if_neg (by simp [check_zero.2 (splitU_whole hu hL).ok]), if_neg (by omega), if_neg (by simp [within]; omega)]
end Go.Proofs.YtbmnkjaelfjlhaaDoor

