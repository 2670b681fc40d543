/- Texts joined: SplitV SplitW SplitX. -/
import Derived.Test.YtbmnkjaelfjlhaaDoorHP
import Derived.Test.YtbmnkjaelfjlhaaDoorHT
import Derived.Test.YtbmnkjaelfjlhaaDoorHW
/- Plain: a unit that is split runs as before, in one or two steps for each step. -/
namespace Go.Proofs.YtbmnkjaelfjlhaaDoor
open Go Go.RowKit

theorem splitU_get (u : LUnit) (k : Nat) : (splitU u).funcs[k]? = (u.funcs[k]?).map splitF := by unfold splitU; simp only [List.getElem?_map]
theorem splitU_regs (u : LUnit) (k : Nat) : regsOf (splitU u) k = regsOf u k := by
  unfold regsOf
  rw [splitU_get]
  cases u.funcs[k]? <;> rfl
theorem splitU_main (u : LUnit) : mainAt (splitU u).funcs = mainAt u.funcs := by
  rw [mainAt_map, mainAt_map]
  unfold splitU
  simp only [List.map_map]
  rfl
theorem fresh_cons (n t : Nat) (e : Nat × Nat) (D : List (Nat × Nat)) : freshL n (e :: D) t = (if e.2 = t then [n] else []) ++ freshL (n + 1) D t := by
  unfold freshL
  rw [List.length_cons, List.range_succ_eq_map, List.filter_cons, List.filter_map]
  have h2 : ((fun j => decide ((((e :: D)[j]?).map Prod.snd) = some t)) ∘ Nat.succ) = fun j => decide (((D[j]?).map Prod.snd) = some t) := by
    funext j
    simp
  rw [h2]
  have h3 : (((List.range D.length).filter fun j => decide (((D[j]?).map Prod.snd) = some t)).map Nat.succ).map (n + ·) = ((List.range D.length).filter fun j => decide (((D[j]?).map Prod.snd) = some t)).map (n + 1 + ·) := by
    rw [List.map_map]
    refine List.map_congr_left fun x _ => ?_
    simp only [Function.comp_apply]
    omega
  by_cases h : e.2 = t
  · simp only [List.getElem?_cons_zero, Option.map_some, h, decide_true, if_true, List.map_cons, h3]
    rfl
  · simp only [List.getElem?_cons_zero, Option.map_some, Option.some.injEq, h, decide_false, Bool.false_eq_true, if_false, h3, List.nil_append]
theorem fresh_align (t : Nat) : ∀ (D : List (Nat × Nat)) (n j : Nat) (e : Nat × Nat), D[j]? = some e → e.2 = t → (inD D t)[(freshL n D t).idxOf (n + j)]? = some e
  | [], _, _, _, h, _ => by simp at h
  | e0 :: D, n, 0, e, h, he => by
    simp only [List.getElem?_cons_zero, Option.some.injEq] at h
    subst h
    rw [fresh_cons, if_pos he, Nat.add_zero]
    unfold inD
    rw [List.filter_cons_of_pos (by simpa using he), List.singleton_append, List.idxOf_cons_self]
    rfl
  | e0 :: D, n, j + 1, e, h, he => by
    simp only [List.getElem?_cons_succ] at h
    have ih := fresh_align t D (n + 1) j e h he
    rw [show n + 1 + j = n + (j + 1) by omega] at ih
    rw [fresh_cons]
    by_cases h0 : e0.2 = t
    · rw [if_pos h0, List.singleton_append, List.idxOf_cons, show (n == n + (j + 1)) = false by simp, cond_false]
      unfold inD at ih ⊢
      rw [List.filter_cons_of_pos (by simpa using h0), List.getElem?_cons_succ]
      exact ih
    · rw [if_neg h0, List.nil_append]
      unfold inD at ih ⊢
      rw [List.filter_cons_of_neg (by simpa using h0)]
      exact ih
section
variable {bl : List LBlock} {D : List (Nat × Nat)}
theorem src_stay (hg : GoodB bl) {t q : Nat} (ht : t < bl.length) (hq : q ∈ stay bl D t) (p : LPhi) : (phD bl D t p).src.getD ((preds (splitD bl D) t).idxOf q) noV = srcAt bl t p q := by
  have hl := List.idxOf_lt_length_of_mem hq
  rw [preds_split hg ht, List.idxOf_append, if_pos hq]
  unfold phD
  simp only
  rw [List.getD_eq_getElem?_getD, List.getElem?_append_left (by rw [List.length_map]; exact hl), List.getElem?_map, List.getElem?_eq_getElem hl, List.getElem_idxOf]
  rfl
theorem src_fresh (hg : GoodB bl) {t j : Nat} {e : Nat × Nat} (ht : t < bl.length) (he : D[j]? = some e) (het : e.2 = t) (p : LPhi) : (phD bl D t p).src.getD ((preds (splitD bl D) t).idxOf (bl.length + j)) noV = srcAt bl t p e.1 := by
  have hn : bl.length + j ∉ stay bl D t := fun h => by
    have := List.mem_range.1 (List.mem_filter.1 (List.mem_filter.1 h).1).1
    omega
  rw [preds_split hg ht, List.idxOf_append, if_neg hn]
  unfold phD
  simp only
  rw [List.getD_eq_getElem?_getD, List.getElem?_append_right (by rw [List.length_map]; omega), List.length_map, Nat.add_sub_cancel, List.getElem?_map, fresh_align t D bl.length j e he het]
  rfl
end
theorem phisM_same {f g : Frm} {k k' : Nat} {ps : List LPhi} {F : LPhi → LPhi} (hr : g.regs = f.regs) (hd : ∀ p ∈ ps, (F p).dst = p.dst) (hs : ∀ p ∈ ps, (F p).src.getD k' noV = p.src.getD k noV) : phisM g k' (ps.map F) = phisM f k ps := by
  rw [phisM_all, phisM_all, hr, List.map_map]
  congr 1
  refine List.map_congr_left fun p hp => ?_
  simp only [Function.comp_apply]
  rw [hd p hp, hs p hp]
  unfold valM
  rw [hr]
abbrev FRs (d e : Int) (f g : Frm) : Prop := g = f ∧ e = d
abbrev FTs (f g : Frm) : Prop := g = f
def RelS (u : LUnit) (s t : Mac) : Prop := MacOk u (s.steps + 1) s ∧ RelM FRs FTs s t
theorem split_sim {u : LUnit} (hu : UnitFit u) (hc : CheckOk u) : Sim u (splitU u) 1 2 (RelS u) := by
  intro s t ⟨hok, hrel⟩
  obtain ⟨X, R, hf⟩ := hok.top
  obtain ⟨B, hB⟩ : ∃ B, X.blocks[s.top.block]? = some B := ⟨_, List.getElem?_eq_getElem hf.block⟩
  have hBm := List.mem_of_getElem? hB
  have hfit := hf.fit.blk B hBm
  have hgood := hf.fit.ok.good
  have hbok := hf.fit.ok.block _ B hB
  have hbody := hc.body X (List.mem_of_getElem? hf.get)
  obtain ⟨D, hD⟩ : ∃ D, D = critAll X.blocks := ⟨_, rfl⟩
  have hY : (splitU u).funcs[s.top.fn]? = some (splitF X) := by rw [splitU_get, hf.get]; rfl
  have hYb : (splitF X).blocks = splitD X.blocks D := by rw [hD]; rfl
  have hbl : blsOf (splitU u) s.top.fn = splitD X.blocks D := by unfold blsOf; rw [hY]; exact hYb
  have hblu : blsOf u s.top.fn = X.blocks := by unfold blsOf; rw [hf.get]
  have hC : (splitD X.blocks D)[s.top.block]? = some (blkD X.blocks D s.top.block B) := by rw [splitD_lt hf.block, hB]; rfl
  obtain ⟨hm, hi, ho, hst, htop⟩ := hrel
  have hbu := blockM_eq hf hB
  have hbv : blockM (splitU u) t.top = blkD X.blocks D s.top.block B := by
    unfold blockM
    rw [htop, hY]
    simp only
    rw [hYb, List.getD_eq_getElem?_getD, hC]
    rfl
  have hll := hst.len
  cases hx : B.list[s.top.at']? with
  | some x =>
    have hsu : stepM u s = insM u (goOn (tick s)) x := by rw [stepM_eq, hbu]; simp only [hx]
    have hxm := List.mem_of_getElem? hx
    have hDx : (blkD X.blocks D s.top.block B).list[t.top.at']? = some x := by rw [htop]; exact hx
    have hsv : stepM (splitU u) t = insM (splitU u) (goOn (tick t)) x := by rw [stepM_eq, hbv]; simp only [hDx]
    obtain ⟨_, _, _, ud⟩ := vals_used (hbody.list _ B hB x hxm)
    have hgt : (goOn (tick t)).top = (goOn (tick s)).top := by unfold goOn tick; simp only [htop]
    rcases ins_sim (u := u) (v := splitU u) (s := goOn (tick s)) (t := goOn (tick t)) (x := x) (y := x) rfl rfl (by rw [hgt]) (by rw [hgt]) (fun _ => by rw [hgt]) hm hi ho hll ud ud with ⟨f, g, e1, e2, ha⟩ | ⟨h20, e1, e2⟩ | ⟨h20, mem, inp, out, z, e1, e2⟩
    · refine ⟨fun s' hs' => ?_, fun f' hf' => ?_⟩
      · rw [hsu, e1] at hs'; cases hs'
      · rw [hsu, e1] at hf'
        rw [← Sum.inr.inj hf']
        exact ⟨0, t, g, by omega, by omega, rfl, by rw [hsv, e2], ha⟩
    · refine ⟨fun s' hs' => ?_, fun f' hf' => ?_⟩
      · have h9 := (step_ok hu hok hs').1
        rw [hsu, e1] at hs'
        have hs' := Sum.inl.inj hs'
        refine ⟨1, _, by omega, by omega, .one (by rw [hsv, e2]), h9, ?_⟩
        rw [← hs', enterM_def, enterM_def, splitU_regs]
        refine ⟨hm, hi, ho, ?_, ?_⟩
        · exact .add hst ⟨hgt, rfl⟩
        · rfl
      · rw [hsu, e1] at hf'; cases hf'
    · refine ⟨fun s' hs' => ?_, fun f' hf' => ?_⟩
      · have h9 := (step_ok hu hok hs').1
        rw [hsu, e1] at hs'
        have hs' := Sum.inl.inj hs'
        refine ⟨1, _, by omega, by omega, .one (by rw [hsv, e2]), h9, ?_⟩
        rw [← hs']
        exact ⟨rfl, rfl, rfl, hst, by show (goOn (tick t)).top.set x.dst z = (goOn (tick s)).top.set x.dst z; rw [hgt]⟩
      · rw [hsu, e1] at hf'; cases hf'
  | none =>
    have hsu : stepM u s = endM u (tick s) B := by rw [stepM_eq, hbu]; simp only [hx]
    have hDn : (blkD X.blocks D s.top.block B).list[t.top.at']? = none := by rw [htop]; exact hx
    have hsv : stepM (splitU u) t = endM (splitU u) (tick t) (blkD X.blocks D s.top.block B) := by rw [stepM_eq, hbv]; simp only [hDn]
    have hval : valM t.top (blkD X.blocks D s.top.block B).on = valM s.top B.on := by rw [htop]; rfl
    have hdst : t.top.dst = s.top.dst := by rw [htop]
    by_cases hkj : B.kind = 2 ∨ B.kind = 3
    · obtain ⟨i, hil, e1, e2⟩ := jump_sim (u := u) (v := splitU u) (s := tick s) (t := tick t) (C := blkD X.blocks D s.top.block B) hkj rfl hfit.kind.2 hval
      have htm := to_get (B := B) hil
      obtain ⟨to, T, e, hg⟩ := goTo hf hB htm
      have hton : to < X.blocks.length := (List.getElem?_eq_some_iff.1 hg.get).1
      have hCi : (blkD X.blocks D s.top.block B).to.getD i 0 = frTo X.blocks.length D s.top.block (to : Int) := by
        unfold blkD
        simp only
        rw [List.getD_eq_getElem?_getD, List.getElem?_map, List.getElem?_eq_getElem hil, Option.map_some, Option.getD_some]
        rw [List.getD_eq_getElem?_getD, List.getElem?_eq_getElem hil, Option.getD_some] at e
        rw [e]
      rw [e] at e1
      rw [hCi] at e2
      have hTS : (splitD X.blocks D)[to]? = some (blkD X.blocks D to T) := by rw [splitD_lt hton, hg.get]; rfl
      have hphi : phisOf (blsOf u s.top.fn) to = T.phis := by rw [hblu]; unfold phisOf; rw [hg.get]
      have hphiv : phisOf (blsOf (splitU u) s.top.fn) to = T.phis.map (phD X.blocks D to) := by rw [hbl]; unfold phisOf; rw [hTS]; rfl
      refine ⟨fun s' hs' => ?_, fun f' hf' => ?_⟩
      · have h9 := (step_ok hu hok hs').1
        rw [hsu, e1] at hs'
        have hs' := Sum.inl.inj hs'
        by_cases hin : (s.top.block, to) ∈ D
        · have hjl := List.idxOf_lt_length_of_mem hin
          have hfr : frTo X.blocks.length D s.top.block (to : Int) = ((X.blocks.length + D.idxOf (s.top.block, to) : Nat) : Int) := by unfold frTo; rw [Int.toNat_natCast, if_pos hin]
          have hDj : D[D.idxOf (s.top.block, to)]? = some (s.top.block, to) := by rw [List.getElem?_eq_getElem hjl, List.getElem_idxOf]
          generalize D.idxOf (s.top.block, to) = j at *
          rw [hfr] at e2
          have hFS : (splitD X.blocks D)[X.blocks.length + j]? = some (jumpB to) := by rw [splitD_ge, hDj]; rfl
          have hphf : phisOf (blsOf (splitU u) s.top.fn) (X.blocks.length + j) = [] := by rw [hbl]; unfold phisOf; rw [hFS]; rfl
          obtain ⟨t1, ht1⟩ : ∃ t1, t1 = jumpM (splitU u) (tick t) ((X.blocks.length + j : Nat) : Int) := ⟨_, rfl⟩
          have ht1d := ht1
          rw [jumpM_def] at ht1d
          have ht1r : t1.top.regs = s.top.regs := by
            rw [ht1d]
            show phisM t.top _ (phisOf (blsOf (splitU u) t.top.fn) (((X.blocks.length + j : Nat) : Int)).toNat) = s.top.regs
            rw [htop, Int.toNat_natCast, hphf]
            rfl
          have ht1f : t1.top.fn = s.top.fn := by rw [ht1d]; show t.top.fn = _; rw [htop]
          have ht1b : t1.top.block = X.blocks.length + j := by rw [ht1d]; exact Int.toNat_natCast _
          have ht1a : t1.top.at' = 0 := by rw [ht1d]
          have ht1s : t1.top.dst = s.top.dst := by rw [ht1d]; show t.top.dst = _; rw [htop]
          have hb1 : blockM (splitU u) t1.top = jumpB to := by
            unfold blockM
            rw [ht1f, hY]
            simp only
            rw [hYb, ht1b, List.getD_eq_getElem?_getD, hFS]
            rfl
          have hst2 : stepM (splitU u) t1 = .inl (jumpM (splitU u) (tick t1) (to : Int)) := by
            rw [stepM_eq, hb1]
            rfl
          refine ⟨2, _, by omega, by omega, Goes.trans (k := 1) (.one (show stepM (splitU u) t = .inl t1 by rw [hsv, e2, ht1])) (.one hst2), h9, ?_⟩
          rw [← hs', jumpM_def, jumpM_def]
          refine ⟨?_, ?_, ?_, ?_, ?_⟩
          · show t1.mem = s.mem; rw [ht1d]; exact hm
          · show t1.inp = s.inp; rw [ht1d]; exact hi
          · show t1.out = s.out; rw [ht1d]; exact ho
          · show Stk FRs s.rest t1.rest s.top.dst t1.top.dst
            rw [ht1s, ht1d]
            show Stk FRs s.rest t.rest s.top.dst s.top.dst
            rw [hdst] at hst
            exact hst
          · show ({ t1.top with regs := phisM t1.top ((preds (blsOf (splitU u) t1.top.fn) (to : Int).toNat).idxOf t1.top.block) (phisOf (blsOf (splitU u) t1.top.fn) (to : Int).toNat), block := (to : Int).toNat, at' := 0 } : Frm) = { s.top with regs := phisM s.top ((preds (blsOf u s.top.fn) (to : Int).toNat).idxOf s.top.block) (phisOf (blsOf u s.top.fn) (to : Int).toNat), block := (to : Int).toNat, at' := 0 }
            rw [ht1f, ht1b, Int.toNat_natCast, hphi, hphiv, hbl, hblu]
            have h7 := phisM_same (f := s.top) (g := t1.top) (k := (preds X.blocks to).idxOf s.top.block) (k' := (preds (splitD X.blocks D) to).idxOf (X.blocks.length + j)) (ps := T.phis) (F := phD X.blocks D to) ht1r (fun p _ => rfl) fun p _ => src_fresh hgood hton hDj rfl p
            rw [h7]
            simp only [ht1f, ht1s]
        · have hfr : frTo X.blocks.length D s.top.block (to : Int) = (to : Int) := by unfold frTo; rw [Int.toNat_natCast, if_neg hin]
          rw [hfr] at e2
          have hstay : s.top.block ∈ stay X.blocks D to := List.mem_filter.2 ⟨hg.mem, by simpa using hin⟩
          refine ⟨1, _, by omega, by omega, .one (by rw [hsv, e2]), h9, ?_⟩
          rw [← hs', jumpM_def, jumpM_def]
          refine ⟨hm, hi, ho, hst, ?_⟩
          show ({ t.top with regs := phisM t.top ((preds (blsOf (splitU u) t.top.fn) (to : Int).toNat).idxOf t.top.block) (phisOf (blsOf (splitU u) t.top.fn) (to : Int).toNat), block := (to : Int).toNat, at' := 0 } : Frm) = { s.top with regs := phisM s.top ((preds (blsOf u s.top.fn) (to : Int).toNat).idxOf s.top.block) (phisOf (blsOf u s.top.fn) (to : Int).toNat), block := (to : Int).toNat, at' := 0 }
          rw [htop, Int.toNat_natCast, hphi, hphiv, hbl, hblu]
          have h7 := phisM_same (f := s.top) (g := s.top) (k := (preds X.blocks to).idxOf s.top.block) (k' := (preds (splitD X.blocks D) to).idxOf s.top.block) (ps := T.phis) (F := phD X.blocks D to) rfl (fun p _ => rfl) fun p _ => src_stay hgood hton hstay p
          rw [h7]
      · rw [hsu, e1] at hf'; cases hf'
    · rcases ret_sim (u := u) (v := splitU u) (FR := FRs) (s := tick s) (t := tick t) (C := blkD X.blocks D s.top.block B) (fun h => hkj (.inl h)) (fun h => hkj (.inr h)) rfl hval ho hst with ⟨f, g, e1, e2, ha⟩ | ⟨l, f, m, g, d1, d2, e1, e2, d3, d4⟩
      · refine ⟨fun s' hs' => ?_, fun f' hf' => ?_⟩
        · rw [hsu, e1] at hs'; cases hs'
        · rw [hsu, e1] at hf'
          rw [← Sum.inr.inj hf']
          exact ⟨0, t, g, by omega, by omega, rfl, by rw [hsv, e2], ha⟩
      · refine ⟨fun s' hs' => ?_, fun f' hf' => ?_⟩
        · have h9 := (step_ok hu hok hs').1
          rw [hsu, e1] at hs'
          have hs' := Sum.inl.inj hs'
          refine ⟨1, _, by omega, by omega, .one (by rw [hsv, e2]), h9, ?_⟩
          rw [← hs']
          obtain ⟨rfl, _⟩ := d4
          refine ⟨hm, hi, ho, d3, ?_⟩
          show g.set t.top.dst (valM s.top B.on) = g.set s.top.dst (valM s.top B.on)
          rw [hdst]
        · rw [hsu, e1] at hf'; cases hf'
theorem split_runs {u : LUnit} (hu : UnitFit u) (hs : StartOk u) (hc : CheckOk u) (inp : List Int) (f m : Nat) (hin : ∀ x ∈ inp, inI x) (h1 : (resultM u inp f).state ≠ 1) (hm : 2 * f ≤ m) :
    Alike (resultM u inp f) (resultM (splitU u) inp m) ∧ (resultM u inp f).steps ≤ (resultM (splitU u) inp m).steps ∧ (resultM (splitU u) inp m).steps ≤ 2 * (resultM u inp f).steps := by
  have e1 : ∀ v : LUnit, startM v inp = ⟨memL v.globals, inp, [], 0, [], ⟨(mainAt v.funcs).toNat, 0, 0, List.replicate (regsOf v (mainAt v.funcs).toNat) 0, -1⟩, bump (v.funcs.map fun X => List.replicate X.blocks.length 0) (mainAt v.funcs).toNat 0⟩ := fun _ => rfl
  obtain ⟨h2, i, j, h3, h4, h5, h6⟩ := sim_run (split_sim hu hc) f (startM u inp) (startM (splitU u) inp) m ⟨start_ok hu hs hin, by
    rw [e1, e1, splitU_main, splitU_regs]
    exact ⟨rfl, rfl, rfl, .nil _ _, rfl⟩⟩ h1 hm
  refine ⟨h2, ?_⟩
  have e2 : (startM u inp).steps = 0 := rfl
  have e3 : (startM (splitU u) inp).steps = 0 := rfl
  unfold resultM
  omega
end Go.Proofs.YtbmnkjaelfjlhaaDoor


/- Plain: a unit that is split passes the check, if none of its functions is large; it has nothing left to split. -/
namespace Go.Proofs.YtbmnkjaelfjlhaaDoor
open Go Go.RowKit

structure EndOk (n : Nat) (R : Int) (B : LBlock) : Prop where
  kind : 1 ≤ B.kind ∧ B.kind ≤ 3
  len : (B.to.length : Int) = B.kind - 1
  to : ∀ t ∈ B.to, 1 ≤ t ∧ t ≤ (n : Int) - 1
  two : B.kind = 3 → B.to[0]?.getD 0 ≠ B.to[1]?.getD 0
  one : B.kind = 2 → noVal B.on = true
  on : valErr R B.on = 0
theorem end_zero {n : Nat} {R : Int} {B : LBlock} : endErr n R B = 0 ↔ EndOk n R B := by
  unfold endErr endE
  constructor
  · intro h
    split at h
    · cases h
    rename_i h1
    split at h
    · cases h
    rename_i h2
    split at h
    · cases h
    rename_i h3
    split at h
    · cases h
    rename_i h4
    simp only [within, Bool.not_eq_true', Bool.and_eq_false_iff, decide_eq_false_iff_not, not_or, Decidable.not_not] at h1
    simp only [Bool.or_eq_true, Bool.and_eq_true, decide_eq_true_eq, Bool.not_eq_true', not_or, not_and, Bool.not_eq_false] at h4
    refine ⟨by omega, by simpa using h2, fun t ht => ?_, h4.1, h4.2, h⟩
    simp only [List.any_eq_true, not_exists, not_and, within, Bool.not_eq_true', Bool.and_eq_false_iff, decide_eq_false_iff_not, not_or, Decidable.not_not] at h3
    have := h3 t ht
    omega
  · intro h
    rw [if_neg, if_neg, if_neg, if_neg]
    · exact h.on
    · simp only [Bool.or_eq_true, Bool.and_eq_true, decide_eq_true_eq, Bool.not_eq_true', not_or, not_and, Bool.not_eq_false]
      exact ⟨h.two, h.one⟩
    · simp only [List.any_eq_true, not_exists, not_and, within, Bool.not_eq_true', Bool.and_eq_false_iff, decide_eq_false_iff_not, not_or, Decidable.not_not]
      exact h.to
    · simpa using h.len
    · simp only [within, Bool.not_eq_true', Bool.and_eq_false_iff, decide_eq_false_iff_not, not_or, Decidable.not_not]
      exact h.kind
theorem splitD_end {bl : List LBlock} {D : List (Nat × Nat)} {R : Int} (hg : GoodB bl) (hD : DOk bl D) (hnd : ∀ (b : Nat) B, bl[b]? = some B → B.to.Nodup) (h : ∀ B ∈ bl, EndOk bl.length R B) : ∀ C ∈ splitD bl D, EndOk (splitD bl D).length R C := fun C hC => by
  obtain ⟨c, hc⟩ := List.getElem?_of_mem hC
  have hn2 := splitD_nodup (D := D) hg hnd c C hc
  rw [splitD_len]
  rcases splitD_mem hc with ⟨B, hcl, hB, rfl⟩ | ⟨j, e, rfl, he, rfl⟩
  · have hb := h B (List.mem_of_getElem? hB)
    refine ⟨hb.kind, by unfold blkD; simp only [List.length_map]; exact hb.len, fun t ht => ?_, fun h3 e => ?_, hb.one, hb.on⟩
    · unfold blkD at ht
      simp only at ht
      obtain ⟨x, hx, rfl⟩ := List.mem_map.1 ht
      have := hb.to x hx
      unfold frTo
      split
      · rename_i h4
        have := List.idxOf_lt_length_of_mem h4
        omega
      · omega
    · have hl : (blkD bl D c B).to.length = 2 := by
        have := hb.len
        have h3' : B.kind = 3 := h3
        unfold blkD
        simp only [List.length_map]
        omega
      rw [List.getElem?_eq_getElem (show 0 < (blkD bl D c B).to.length by omega), List.getElem?_eq_getElem (show 1 < (blkD bl D c B).to.length by omega)] at e
      simp only [Option.getD_some] at e
      have := (List.getElem_inj hn2).1 e
      omega
  · have hE := hD.edge e (List.mem_of_getElem? he)
    have hEo := edge_of hg hE
    have h1 : 1 ≤ (e.2 : Int) := by
      unfold Edge toOf at hE
      split at hE
      · rename_i B hB
        exact ((h B (List.mem_of_getElem? hB)).to _ hE).1
      · cases hE
    refine ⟨⟨by simp [jumpB], by simp [jumpB]⟩, by simp [jumpB], fun t ht => ?_, fun h3 => by simp [jumpB] at h3, fun _ => rfl, rfl⟩
    simp only [jumpB, List.mem_singleton] at ht
    omega
theorem splitF_to {u : LUnit} (hc : CheckOk u) {i : Nat} {X : LFunc} (hX : u.funcs[i]? = some X) (hL : largeF (splitF X) = false) : FnTo u.funcs X (splitF X) := by
  have hs := FnTo.same hc hX
  have hb := hs.body
  obtain ⟨R, hXR, hR, hf⟩ := check_func (check_zero.2 hc) hX
  have hg := hf.good
  have hnd : ∀ (b : Nat) B, X.blocks[b]? = some B → B.to.Nodup := fun b B hB => (hf.block b B hB).to
  have hD := critTo_ok hg (toOf_nodup hnd) X.blocks.length 0 (Nat.zero_le _)
  have hYb : (splitF X).blocks = splitD X.blocks (critAll X.blocks) := rfl
  have hDc : DOk X.blocks (critAll X.blocks) := hD
  unfold largeF largeL at hL
  simp only [Bool.or_eq_false_iff, decide_eq_false_iff_not, hYb] at hL
  have hms := many_size (splitD X.blocks (critAll X.blocks))
  refine ⟨rfl, rfl, hs.regs, by rw [hYb]; have := hs.many; have := splitD_len X.blocks (critAll X.blocks); omega, by rw [hYb]; omega, ?_, ?_, ?_⟩
  · intro C hC
    rw [hYb] at hC ⊢
    exact end_zero.2 (splitD_end hg hDc hnd (fun B hB => end_zero.1 (hb.ends B hB)) C hC)
  · intro c C hC p' hp'
    rw [hYb] at hC ⊢
    rcases splitD_mem hC with ⟨B, hcl, hB, rfl⟩ | ⟨j, e, rfl, he, rfl⟩
    · unfold blkD at hp'
      simp only at hp'
      obtain ⟨p, hp, rfl⟩ := List.mem_map.1 hp'
      have h0 := hb.phis c B hB p hp
      have hpo := (hf.block c B hB).phis p hp
      unfold phiErr phiE at h0 ⊢
      rw [aheadL_get (splitD_good hg hDc) (splitD_nodup hg hnd) (by rw [splitD_len]; omega)]
      split at h0
      · cases h0
      rename_i h1
      split at h0
      · rename_i h2; exact absurd h0 h2
      rename_i h2
      split at h0
      · cases h0
      have h4 := at0_all h0
      rw [show (splitF X).regs = X.regs from rfl, show (phD X.blocks (critAll X.blocks) c p).dst = p.dst from rfl, if_neg h1, if_neg h2, if_neg]
      · rw [firstI_zero']
        intro j hj
        unfold at0
        rw [List.getElem?_eq_getElem hj]
        simp only
        have hm : (phD X.blocks (critAll X.blocks) c p).src[j] ∈ (phD X.blocks (critAll X.blocks) c p).src := List.getElem_mem _
        generalize (phD X.blocks (critAll X.blocks) c p).src[j] = v at hm
        unfold phD at hm
        simp only at hm
        rcases List.mem_append.1 hm with hv | hv
        · obtain ⟨x, hx, rfl⟩ := List.mem_map.1 hv
          exact h4 _ (srcAt_mem (R := R) hpo.len (List.mem_filter.1 hx).1)
        · obtain ⟨x, hx, rfl⟩ := List.mem_map.1 hv
          exact h4 _ (srcAt_mem (R := R) hpo.len (inD_pred hg hDc hx).1)
      · rw [Option.getD_some, List.length_map, phD_len hg hDc, preds_len hg hDc hcl]
        simp
    · simp [jumpB] at hp'
  · intro c C hC x hx
    rw [hYb] at hC
    rcases splitD_mem hC with ⟨B, hcl, hB, rfl⟩ | ⟨j, e, rfl, he, rfl⟩
    · exact hb.list c B hB x hx
    · simp [jumpB] at hx
theorem splitU_whole {u : LUnit} (hu : Whole u) (hL : ∀ X ∈ u.funcs, largeF (splitF X) = false) : Whole (splitU u) := by
  refine ⟨check_map hu.ok rfl (by unfold splitU; rw [List.length_map]) fun i X Y hX hY => ?_, fun Y hY C hC => ?_, hu.gnums⟩
  · rw [splitU_get, hX] at hY
    obtain rfl := Option.some.inj hY
    exact splitF_to hu.ok hX (hL X (List.mem_of_getElem? hX))
  · unfold splitU at hY
    obtain ⟨X, hX, rfl⟩ := List.mem_map.1 hY
    obtain ⟨c, hc⟩ := List.getElem?_of_mem hC
    have hn0 := hu.nums X hX
    rcases splitD_mem hc with ⟨B, hcl, hB, rfl⟩ | ⟨j, e, rfl, he, rfl⟩
    · have hn := hn0 B (List.mem_of_getElem? hB)
      refine ⟨hn.on, fun q hq v hv => ?_, hn.list⟩
      unfold blkD at hq
      simp only at hq
      obtain ⟨p, hp, rfl⟩ := List.mem_map.1 hq
      have key : ∀ x, inI (srcAt X.blocks c p x).n := fun x => by
        unfold srcAt
        rw [List.getD_eq_getElem?_getD]
        cases hz : p.src[(preds X.blocks c).idxOf x]? with
        | none => exact ⟨by simp [noV], by simp [noV]⟩
        | some z => exact hn.phis p hp z (List.mem_of_getElem? hz)
      unfold phD at hv
      simp only at hv
      rcases List.mem_append.1 hv with hv | hv
      · obtain ⟨x, _, rfl⟩ := List.mem_map.1 hv
        exact key x
      · obtain ⟨x, _, rfl⟩ := List.mem_map.1 hv
        exact key x.1
    · exact ⟨show inI (0 : Int) from ⟨by omega, by omega⟩, by simp [jumpB], by simp [jumpB]⟩

/-! ### Nothing is left to split -/
end Go.Proofs.YtbmnkjaelfjlhaaDoor


/- The law GraphSteps: after graph.Split every run ends as before, in at most twice as many steps. -/
namespace Go.Proofs.YtbmnkjaelfjlhaaDoor
open Go Go.RowKit
attribute [local irreducible] wpListIn Code.wpIn Exit.then Exit.inBlock bodyPost wpQuiet wpAnyIn wpAnyH bodyPostM oneH
set_option maxHeartbeats 4000000

theorem split_comes {u : LUnit} (hu : Whole u) (hL : ∀ X ∈ u.funcs, largeF (splitF X) = false) {inp : List Int} (hin : ∀ x ∈ inp, inI x) {f m : Nat} (hc : (countsE u inp.length f).1 = 0) (hs : (resultM u inp f).state ≠ 1) (hf : 2 * f ≤ m) (hm : m ≤ 100000) : Comes u (splitU u) inp f m := by
  obtain ⟨_, hil, _⟩ := countsE_zero hc
  obtain ⟨h1, _⟩ := split_runs hu.fit hu.start hu.ok inp f m hin hs hf
  refine ⟨?_, h1.state, h1.value, h1.out⟩
  unfold countsE
  rw [if_neg (by simp [check_zero.2 (splitU_whole hu hL).ok]), if_neg (by omega), if_neg (by simp [within]; omega)]
theorem run_steps {u : LUnit} : ∀ (n : Nat) (s : Mac), (runM u n s).steps ≤ s.steps + n
  | 0, s => Nat.le_refl _
  | n + 1, s => by
    rw [runM]
    cases he : stepM u s with
    | inl s' =>
      simp only
      have h1 := run_steps (u := u) n s'
      have h2 := step_steps he
      omega
    | inr f =>
      simp only
      have := (step_finS he).1
      omega
theorem counts_check {u : LUnit} {n : Nat} {fuel : Int} (h : (checkL u).1 ≠ 0) : (countsE u n fuel).1 ≠ 0 := by
  unfold countsE
  rw [if_pos h]
  exact h
theorem graphStepsLaw_c (u : LUnit) (inp : List Int) (fuel : Int) (_hk : inI fuel) (g fs iv : Value) (w0 : World) (hg : SlAt w0 g 3 u.globals GlobalV) (hf : SlAt w0 fs 4 u.funcs FuncV) (hin : SlAt w0 iv 1 inp IntV) (hways : CellsAt w0 0 0 waysC) :
    RetV Tryd.prog 5 [.agg #[g, fs], iv, .int .i64 fuel] w0 (.bool true) := by
  classical
  have hg0 := hg
  have hf0 := hf
  have hin0 := hin
  obtain ⟨ga, gn, gc, gb, go, rfl, hgn, _⟩ := hg
  obtain ⟨fa, fn, fc, fb, fo, rfl, hfn, hfnc, hfnb, hfc, hfa, hfel⟩ := hf
  obtain ⟨ia, il, ic, _, _, rfl, _⟩ := hin
  refine ret_enter Tryd.func5 rfl Tryd.ntmps5 rfl (Wd.nil NoS w0) ?_
  repeat (first | refine g_op rfl ?_ | refine g_then ?_ | refine g_nil ?_ | refine g_region ?_ | refine g_seq ?_ | refine g_box rfl fun _ _ => ?_)
  rename_i p3 _
  refine g_callE (val := fun b : Bool => .bool b) (E := fun _ => []) (φ := fun b => b = false → slim u) rfl (fun w hw => heavyS_c u _ _ w (hf0.keep keeps_func hw.chg) ⟨_, _, _, rfl⟩) fun b hb => ?_
  simp only [List.nil_append]
  cases b
  case true =>
    repeat (first | refine g_op rfl ?_ | refine g_then ?_ | refine g_nil ?_ | refine g_region ?_ | refine g_seq ?_ | refine g_opS rfl ?_ | refine g_pass rfl ?_ | refine g_condT ?_ | refine g_ret ?_ | refine g_thenRet ?_)
    exact g_retV rfl rfl
  have hsl := hb rfl
  have hl := hsl.light
  repeat (first | refine g_op rfl ?_ | refine g_open ?_)
  by_cases h1 : fuel < 0
  · rw [show decide (fuel < 0) = true by simp [h1]]
    repeat (first | refine g_op rfl ?_ | refine g_then ?_ | refine g_nil ?_ | refine g_region ?_ | refine g_seq ?_ | refine g_opS rfl ?_ | refine g_pass rfl ?_ | refine g_condT ?_ | refine g_ret ?_ | refine g_thenRet ?_)
    exact g_retV rfl rfl
  rw [show decide (fuel < 0) = false by simp [h1]]
  repeat (first | refine g_op rfl ?_ | refine g_then ?_ | refine g_nil ?_ | refine g_open ?_)
  refine g_cond (fun h2 => ?_) (fun h2 => ?_)
  · repeat (first | refine g_then ?_ | refine g_nil ?_ | refine g_region ?_ | refine g_seq ?_ | refine g_opS rfl ?_ | refine g_ret ?_ | refine g_thenRet ?_)
    exact g_retV rfl rfl
  obtain ⟨f, rfl⟩ : ∃ f : Nat, fuel = f := ⟨fuel.toNat, by omega⟩
  have hf2 : f ≤ 2000 := by simp at h2; omega
  repeat (first | refine g_op rfl ?_ | refine g_then ?_ | refine g_region ?_ | refine g_seq ?_ | refine g_skip ?_)
  by_cases hbad : (checkL u).1 ≠ 0
  · refine g_callV rfl (fun w hw => split_bad u hl hbad _ _ w (hg0.keep keeps_global hw.chg) (hf0.keep keeps_func hw.chg) (hways.keep hw.chg)) ?_
    repeat (first | refine g_op rfl ?_ | refine g_then ?_ | refine g_nil ?_ | refine g_region ?_ | refine g_seq ?_ | refine g_alloc rfl fun _ _ => ?_ | refine g_storeAgg ?_)
    refine g_callV rfl (fun w hw => do_bad u hl _ _ _ inp f (counts_check hbad) w (hg0.keep keeps_global hw.chg) (hf0.keep keeps_func hw.chg) (hin0.keep keeps_int hw.chg) (hways.keep hw.chg)) ?_
    repeat (first | refine g_op rfl ?_ | refine g_then ?_ | refine g_nil ?_ | refine g_region ?_ | refine g_seq ?_ | refine g_alloc rfl fun _ _ => ?_ | refine g_storeAgg ?_)
    rw [show (!decide ((checkL u).1 = 0)) = true by simp [hbad]]
    repeat (first | refine g_op rfl ?_ | refine g_then ?_ | refine g_nil ?_ | refine g_region ?_ | refine g_seq ?_ | refine g_pass rfl ?_ | refine g_condT ?_)
    rw [show decide ((checkL u).1 = 0) = false by simp [hbad]]
    repeat (first | refine g_op rfl ?_ | refine g_open ?_)
    refine g_callV rfl (fun w hw => noneE_c w) ?_
    repeat (first | refine g_op rfl ?_ | refine g_then ?_ | refine g_nil ?_ | refine g_opS rfl ?_ | refine g_ret ?_ | refine g_thenRet ?_)
    exact g_retV rfl rfl
  have hch : (checkL u).1 = 0 := by simpa using hbad
  have hu : Whole u := ⟨check_zero.1 hch, nums_of hf0, gnums_of hg0⟩
  have hfi := hsl.fine hch
  have hini : ∀ x ∈ inp, inI x := fun x hx => by obtain ⟨_, _, h9⟩ := hin0.el hx; exact h9
  rcases large_or u splitF with ⟨i, X, hF⟩ | hno
  · refine g_callV rfl (fun w hw => split_big u hfi hch i X hF _ _ w (hg0.keep keeps_global hw.chg) (hf0.keep keeps_func hw.chg) (hways.keep hw.chg)) ?_
    repeat (first | refine g_op rfl ?_ | refine g_then ?_ | refine g_nil ?_ | refine g_region ?_ | refine g_seq ?_ | refine g_alloc rfl fun _ _ => ?_ | refine g_storeAgg ?_)
    by_cases hdo : (countsE u inp.length f).1 ≠ 0
    · refine g_callV rfl (fun w hw => do_bad u hl _ _ _ inp f hdo w (hg0.keep keeps_global hw.chg) (hf0.keep keeps_func hw.chg) (hin0.keep keeps_int hw.chg) (hways.keep hw.chg)) ?_
      repeat (first | refine g_op rfl ?_ | refine g_then ?_ | refine g_nil ?_ | refine g_region ?_ | refine g_seq ?_ | refine g_pass rfl ?_ | refine g_alloc rfl fun _ _ => ?_ | refine g_storeAgg ?_)
      rw [show (!decide ((10 : Int) = 0)) = true by decide]
      repeat (first | refine g_op rfl ?_ | refine g_then ?_ | refine g_nil ?_ | refine g_region ?_ | refine g_seq ?_ | refine g_open ?_ | refine g_pass rfl ?_ | refine g_condT ?_)
      rw [show decide ((10 : Int) = 0) = false by decide]
      skip
      refine g_callV rfl (fun w hw => noneE_c w) ?_
      repeat (first | refine g_op rfl ?_ | refine g_then ?_ | refine g_nil ?_ | refine g_opS rfl ?_ | refine g_ret ?_ | refine g_thenRet ?_)
      exact g_retV rfl rfl
    have hgood : (countsE u inp.length f).1 = 0 := by simpa using hdo
    refine g_callE (val := (fun x : Option Addr × Nat × (Nat → Prop) => Value.tuple #[.agg #[.int .i64 (resultM u inp f).state, .int .i64 (resultM u inp f).value, .slice x.1 (resultM u inp f).out.length x.2.1, .int .i64 (resultM u inp f).steps], .agg #[.int .i64 0, .int .i64 0]])) (E := (fun x : Option Addr × Nat × (Nat → Prop) => [(⟨x.2.2, fun w => SlAt w (.slice x.1 (resultM u inp f).out.length x.2.1) 1 (resultM u inp f).out IntV⟩ : Ent)])) (φ := fun _ => True) rfl (fun w hw => do_ok u hl _ _ _ inp f hgood w (hg0.keep keeps_global hw.chg) (hf0.keep keeps_func hw.chg) (hin0.keep keeps_int hw.chg) (hways.keep hw.chg)) fun x _ => ?_
    obtain ⟨oa, oc, op⟩ := x
    simp only [List.cons_append, List.nil_append]
    repeat (first | refine g_op rfl ?_ | refine g_then ?_ | refine g_nil ?_ | refine g_region ?_ | refine g_seq ?_ | refine g_pass rfl ?_ | refine g_alloc rfl fun _ _ => ?_ | refine g_storeAgg ?_)
    rw [show (!decide ((10 : Int) = 0)) = true by decide]
    repeat (first | refine g_op rfl ?_ | refine g_then ?_ | refine g_nil ?_ | refine g_region ?_ | refine g_seq ?_ | refine g_open ?_ | refine g_pass rfl ?_ | refine g_condT ?_)
    rw [show decide ((10 : Int) = 0) = false by decide]
    skip
    refine g_callV rfl (fun w hw => noneE_c w) ?_
    repeat (first | refine g_op rfl ?_ | refine g_then ?_ | refine g_nil ?_ | refine g_opS rfl ?_ | refine g_ret ?_ | refine g_thenRet ?_)
    exact g_retV rfl rfl
  have hu2 := splitU_whole hu hno
  have hl2 := check_light hu2.ok
  have hfn2 : (splitU u).funcs.length = u.funcs.length := by unfold splitU; rw [List.length_map]
  have hfpos : 0 < u.funcs.length := by
    have h1 := hu.ok.main
    cases hfs : u.funcs with
    | nil => rw [hfs] at h1; exact absurd h1 (by decide)
    | cons _ _ => simp
  refine g_callE (val := (fun x : (Option Addr × Nat) × (Option Addr × Nat) × (Nat → Prop) => Value.tuple #[.agg #[.slice x.1.1 gn x.1.2, .slice x.2.1.1 fn x.2.1.2], .agg #[.int .i64 0, .int .i64 0]])) (E := (fun x : (Option Addr × Nat) × (Option Addr × Nat) × (Nat → Prop) => [unitE (splitU u) (.slice x.1.1 gn x.1.2) (.slice x.2.1.1 fn x.2.1.2) x.2.2])) (φ := fun _ => True) rfl (fun w hw => by rw [hgn, hfn]; exact split_ok u hfi hch hno _ _ w (by rw [← hgn]; exact hg0.keep keeps_global hw.chg) (by rw [← hfn]; exact hf0.keep keeps_func hw.chg) (hways.keep hw.chg)) fun x _ => ?_
  obtain ⟨⟨ya, yc⟩, ⟨za, zc⟩, fp⟩ := x
  simp only [List.cons_append, List.nil_append]
  repeat (first | refine g_op rfl ?_ | refine g_then ?_ | refine g_nil ?_ | refine g_region ?_ | refine g_seq ?_ | refine g_alloc rfl fun _ _ => ?_ | refine g_storeAgg ?_)
  by_cases hdo : (countsE u inp.length f).1 ≠ 0
  · refine g_callV rfl (fun w hw => do_bad u hl _ _ _ inp f hdo w (hg0.keep keeps_global hw.chg) (hf0.keep keeps_func hw.chg) (hin0.keep keeps_int hw.chg) (hways.keep hw.chg)) ?_
    repeat (first | refine g_op rfl ?_ | refine g_then ?_ | refine g_nil ?_ | refine g_region ?_ | refine g_seq ?_ | refine g_open ?_ | refine g_alloc rfl fun _ _ => ?_ | refine g_storeAgg ?_)
    rw [show (!decide ((0 : Int) = 0)) = false by simp]
    repeat (refine g_op rfl ?_)
    rw [show (!decide ((countsE u inp.length f).1 = 0)) = true by simp [hdo]]
    repeat (first | refine g_op rfl ?_ | refine g_then ?_ | refine g_nil ?_ | refine g_region ?_ | refine g_seq ?_ | refine g_pass rfl ?_ | refine g_condT ?_)
    rw [show decide ((0 : Int) = 0) = true by simp]
    repeat (first | refine g_op rfl ?_ | refine g_then ?_ | refine g_nil ?_ | refine g_opS rfl ?_ | refine g_ret ?_ | refine g_thenRet ?_)
    exact g_retV rfl rfl
  have hgood : (countsE u inp.length f).1 = 0 := by simpa using hdo
  refine g_callE (val := (fun x : Option Addr × Nat × (Nat → Prop) => Value.tuple #[.agg #[.int .i64 (resultM u inp f).state, .int .i64 (resultM u inp f).value, .slice x.1 (resultM u inp f).out.length x.2.1, .int .i64 (resultM u inp f).steps], .agg #[.int .i64 0, .int .i64 0]])) (E := (fun x : Option Addr × Nat × (Nat → Prop) => [(⟨x.2.2, fun w => SlAt w (.slice x.1 (resultM u inp f).out.length x.2.1) 1 (resultM u inp f).out IntV⟩ : Ent)])) (φ := fun _ => True) rfl (fun w hw => do_ok u hl _ _ _ inp f hgood w (hg0.keep keeps_global hw.chg) (hf0.keep keeps_func hw.chg) (hin0.keep keeps_int hw.chg) (hways.keep hw.chg)) fun x _ => ?_
  obtain ⟨oa, oc, op⟩ := x
  simp only [List.cons_append, List.nil_append]
  repeat (first | refine g_op rfl ?_ | refine g_then ?_ | refine g_nil ?_ | refine g_region ?_ | refine g_seq ?_ | refine g_open ?_ | refine g_alloc rfl fun _ _ => ?_ | refine g_storeAgg ?_)
  rw [show (!decide ((0 : Int) = 0)) = false by simp]
  repeat (first | refine g_op rfl ?_ | refine g_then ?_ | refine g_nil ?_ | refine g_open ?_)
  refine g_cond (fun h3 => ?_) (fun h3 => ?_)
  · repeat (first | refine g_op rfl ?_ | refine g_region ?_ | refine g_seq ?_ | refine g_pass rfl ?_)
    rw [show decide ((0 : Int) = 0) = true by simp]
    repeat (first | refine g_op rfl ?_ | refine g_then ?_ | refine g_nil ?_ | refine g_opS rfl ?_ | refine g_ret ?_ | refine g_thenRet ?_)
    exact g_retV rfl rfl
  have hst : (resultM u inp f).state ≠ 1 := by simpa using h3
  obtain ⟨h4, h5, h6, h7⟩ := split_comes hu hno hini hgood hst (Nat.le_refl (2 * f)) (by omega)
  obtain ⟨_, h8, h9⟩ := split_runs hu.fit hu.start hu.ok inp f (2 * f) hini hst (Nat.le_refl _)
  have h10 := run_steps (u := u) f (startM u inp)
  rw [show (startM u inp).steps = 0 from rfl] at h10
  rw [show runM u f (startM u inp) = resultM u inp f from rfl] at h10
  repeat (first | refine g_op rfl ?_ | refine g_then ?_ | refine g_region ?_ | refine g_seq ?_ | refine g_skip ?_)
  refine g_callV rfl (fun w hw => none_c _ _ (splitU u) w (hw.get (k := 5) rfl).1 (hw.get (k := 5) rfl).2) ?_
  rw [show (decide ((splitU u).globals.length = 0) && decide ((splitU u).funcs.length = 0)) = false by rw [hfn2, decide_eq_false (show ¬ u.funcs.length = 0 by omega), Bool.and_false]]
  repeat (first | refine g_op rfl ?_ | refine g_then ?_ | refine g_nil ?_ | refine g_region ?_ | refine g_seq ?_ | refine g_skip ?_ | refine g_condF ?_)
  refine g_mul rfl (by omega) (by omega) ?_
  skip
  rw [show (2 : Int) * (f : Int) = ((2 * f : Nat) : Int) by omega]
  refine g_callE (val := fun x : Option Addr × Nat × (Nat → Prop) => .tuple #[.agg #[.int .i64 (resultM (splitU u) inp (2 * f)).state, .int .i64 (resultM (splitU u) inp (2 * f)).value, .slice x.1 (resultM (splitU u) inp (2 * f)).out.length x.2.1, .int .i64 (resultM (splitU u) inp (2 * f)).steps], .agg #[.int .i64 0, .int .i64 0]]) (E := fun x => [⟨x.2.2, fun w => SlAt w (.slice x.1 (resultM (splitU u) inp (2 * f)).out.length x.2.1) 1 (resultM (splitU u) inp (2 * f)).out IntV⟩]) (φ := fun _ => True) rfl (fun w hw => do_ok (splitU u) hl2 _ _ _ inp _ h4 w (hw.get (k := 5) rfl).1 (hw.get (k := 5) rfl).2 (hin0.keep keeps_int hw.chg) (hways.keep hw.chg)) fun x _ => ?_
  obtain ⟨na, nc, np⟩ := x
  simp only [List.cons_append, List.nil_append]
  rw [h5, h6, h7]
  repeat (first | refine g_op rfl ?_ | refine g_then ?_ | refine g_nil ?_ | refine g_region ?_ | refine g_seq ?_ | refine g_open ?_ | refine g_alloc rfl fun _ _ => ?_ | refine g_storeAgg ?_)
  rw [show decide ((0 : Int) = 0) = true by simp]
  skip
  refine g_callV rfl (fun w hw => comes_c _ _ _ _ _ _ _ _ _ w ?_ ?_) ?_
  · exact hw.get (k := 5) rfl
  · exact hw.get (k := 2) rfl
  repeat (first | refine g_op rfl ?_ | refine g_open ?_)
  refine g_mul rfl (by omega) (by omega) ?_
  repeat (first | refine g_op rfl ?_ | refine g_open ?_)
  rw [show decide (((resultM (splitU u) inp (2 * f)).steps : Int) ≤ 2 * ((resultM u inp f).steps : Int)) = true by simp; omega]
  repeat (first | refine g_op rfl ?_ | refine g_then ?_ | refine g_nil ?_ | refine g_opS rfl ?_ | refine g_open ?_ | refine g_ret ?_)
  refine g_retV rfl ?_
  rw [show decide (((resultM u inp f).steps : Int) ≤ ((resultM (splitU u) inp (2 * f)).steps : Int)) = true by simp; omega]
end Go.Proofs.YtbmnkjaelfjlhaaDoor

