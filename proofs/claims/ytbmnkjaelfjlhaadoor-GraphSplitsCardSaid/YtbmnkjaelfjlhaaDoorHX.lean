/- Texts joined: SplitT SplitL. -/
import Derived.Test.YtbmnkjaelfjlhaaDoorHJ
import Derived.Test.YtbmnkjaelfjlhaaDoorHU
import Derived.Test.YtbmnkjaelfjlhaaDoorHW
/- turneryref3.Split: what it makes of a function. -/
namespace Go.Proofs.YtbmnkjaelfjlhaaDoor
open Go Go.RowKit
attribute [local irreducible] wpListIn Code.wpIn Exit.then Exit.inBlock bodyPost wpQuiet wpAnyIn wpAnyH bodyPostM oneH
set_option maxHeartbeats 8000000

theorem wd_src {S : Nat → Prop} {w0 w : World} {H : List Ent} {p : PRow} (h : Wd S w0 H w) (hm : phE p ∈ H) (hb : p.l.length ≤ 1000 ∧ ∀ v ∈ p.l, inI v.n) : SlAt w (.slice p.a p.l.length p.c) 2 p.l ValV := by
  obtain ⟨k, hk⟩ := List.getElem?_of_mem hm
  refine h.slAt hk rfl (by omega) fun i x hx => ⟨vlC x, fun j v hj => flat_at vlC_len p.l i x j v hx hj, rfl, hb.2 x (List.mem_of_getElem? hx)⟩
theorem modify_swap2 {α : Type} {f g : α → α} (h : ∀ x, f (g x) = g (f x)) (l : List α) (i j : Nat) : (l.modify i f).modify j g = (l.modify j g).modify i f := by
  apply List.ext_getElem?
  intro k
  rw [List.getElem?_modify, List.getElem?_modify, List.getElem?_modify, List.getElem?_modify]
  cases l[k]? with
  | none => rfl
  | some x =>
    by_cases e1 : i = k <;> by_cases e2 : j = k <;> simp [e1, e2, h]
theorem set_modify {α : Type} {l : List α} {i : Nat} {x y : α} {f : α → α} (hx : l[i]? = some x) (hy : f x = y) : l.set i y = l.modify i f := by
  apply List.ext_getElem?
  intro k
  rw [List.getElem?_modify, List.getElem?_set]
  by_cases e : i = k
  · subst e
    rw [if_pos rfl, if_pos (List.getElem?_eq_some_iff.1 hx).1, hx]
    simp [hy]
  · rw [if_neg e]
    simp [e]
/-- block t with other phis -/
def withPs (T : BRow) (ps : List PRow) : BRow := { T with ps := ps }
theorem wd_shut {S : Nat → Prop} {w0 w : World} {X : List Ent} {a : Option Addr} {n c t : Nat} {zs : List BRow} {T : BRow} {ps : List PRow} (hT : zs[t]? = some T) (hn : n = zs.length) (hps : ps.length = T.ps.length)
    (h : Wd S w0 (X ++ (Ent.vec a n c 47 6 (zs.flatMap blkC) :: Ent.vec T.pa T.ps.length T.pc 69 2 (ps.flatMap phiC) :: lvE T :: tvE T :: (ps.map phE ++ (T.xs.map roE ++ (zs.eraseIdx t).map blkE)))) w) : Wd S w0 (X ++ fnE a c (zs.set t (withPs T ps))) w := by
  have htl := (List.getElem?_eq_some_iff.1 hT).1
  have h2 : Wd S w0 (blkPs (withPs T ps) ++ (X ++ (Ent.vec a n c 47 6 (zs.flatMap blkC) :: (zs.eraseIdx t).map blkE))) w := by
    refine h.perm ?_
    unfold blkPs withPs lvE tvE
    simp only [hps]
    classical
    refine List.perm_iff_count.2 fun e => ?_
    simp only [List.count_append, List.count_cons]
    omega
  refine (Wd.join h2).perm ?_
  have h5 := map_pull blkE (l := zs.set t (withPs T ps)) (k := t) (x := withPs T ps) (List.getElem?_set_self htl)
  rw [List.eraseIdx_set_eq] at h5
  have h6 : (zs.set t (withPs T ps)).flatMap blkC = zs.flatMap blkC := flatMap_set hT (by unfold withPs blkC; simp only [hps])
  unfold fnE
  rw [List.length_set, h6, hn]
  classical
  refine List.perm_iff_count.2 fun e => ?_
  have h7 := List.perm_iff_count.1 h5 e
  simp only [List.count_append, List.count_cons, blkE] at h7 ⊢
  omega
theorem wd_openB {S : Nat → Prop} {w0 w : World} {X : List Ent} {a : Option Addr} {c t : Nat} {zs : List BRow} {T : BRow} (hT : zs[t]? = some T) (h : Wd S w0 (X ++ fnE a c zs) w) :
    Wd S w0 (X ++ (Ent.vec a zs.length c 47 6 (zs.flatMap blkC) :: Ent.vec T.pa T.ps.length T.pc 69 2 (T.ps.flatMap phiC) :: lvE T :: tvE T :: (T.ps.map phE ++ (T.xs.map roE ++ (zs.eraseIdx t).map blkE)))) w := by
  have h2 : Wd S w0 (blkE T :: (X ++ (Ent.vec a zs.length c 47 6 (zs.flatMap blkC) :: (zs.eraseIdx t).map blkE))) w := by
    refine h.perm ?_
    unfold fnE
    have h3 := map_pull blkE hT
    classical
    refine List.perm_iff_count.2 fun e => ?_
    have h4 := List.perm_iff_count.1 h3 e
    simp only [List.count_append, List.count_cons] at h4 ⊢
    omega
  refine h2.unjoin.perm ?_
  unfold blkPs lvE tvE
  classical
  refine List.perm_iff_count.2 fun e => ?_
  simp only [List.count_append, List.count_cons]
  omega
theorem edgesTo_none {bl : List LBlock} {b : Nat} (h : ¬ 1 < (toOf bl b).length) (i : Nat) : edgesTo bl b i = [] := by
  unfold edgesTo
  rw [List.filter_eq_nil_iff.2 fun t _ => by unfold critP; rw [decide_eq_false h]; simp]
  rfl
theorem refSplit_c (nm : ByteArray) (pa re : Int) (bl : List LBlock) (bs0 : Value) (w0 : World) (hbs : SlAt w0 bs0 6 bl BlockV) (hlen : bl.length ≤ 24) (hlim : FnLim ⟨nm, pa, re, bl⟩) (R : Nat) (hf : FuncOk R bl) :
    Ret Tryd.prog 18 [.agg #[.string nm, .int .i64 pa, .int .i64 re, bs0]] w0 fun u w' => ∃ x : Option Addr × Nat × List BRow, u = .agg #[.string nm, .int .i64 pa, .int .i64 re, .slice x.1 x.2.2.length x.2.1] ∧ Wd NoS w0 (fnE x.1 x.2.1 x.2.2) w' ∧ (x.2.2.map BRow.blk = splitD bl (critAll bl) ∧ ∀ b ∈ x.2.2, b.Bd) := by
  classical
  have hg := hf.good
  have hnd : ∀ (b : Nat) B, bl[b]? = some B → B.to.Nodup := fun b B hB => (hf.block b B hB).to
  have hnt := toOf_nodup hnd
  have hnil : splitD bl [] = bl := splitD_nil fun t T hT p hp => ((hf.block t T hT).phis p hp).len
  have hbs0 := hbs
  obtain ⟨ba, n0, bc, bb, bo, rfl, hn0, hnc, hnb, hbc, hba, hbel⟩ := hbs
  refine ret_enter Tryd.func18 rfl Tryd.ntmps18 rfl (Wd.nil NoS w0) ?_
  repeat (first | refine g_op rfl ?_ | refine g_then ?_ | refine g_nil ?_ | refine g_region ?_ | refine g_seq ?_ | refine g_box rfl fun _ _ => ?_ | refine g_alloc rfl fun _ _ => ?_)
  rename_i p1 _ p2 _
  refine g_callE (val := fun x : Option Addr × Nat × List BRow => .agg #[.string nm, .int .i64 pa, .int .i64 re, .slice x.1 x.2.2.length x.2.1]) (E := fun x => fnE x.1 x.2.1 x.2.2) (φ := fun x => x.2.2.map BRow.blk = bl ∧ ∀ b ∈ x.2.2, b.Bd) rfl (fun w hw => funcR_c nm pa re bl _ w (hbs0.keep keeps_block hw.chg) (by omega) fun b hb hA => hlim.bd hb hA) fun x hx => ?_
  obtain ⟨a, c, bs⟩ := x
  obtain ⟨hbm, hbd0⟩ := hx
  simp only at hbm hbd0
  refine g_permH (List.perm_append_comm (l₂ := [Ent.box p2 [.string ByteArray.empty, .int .i64 0, .int .i64 0, .slice none 0 0] 35, Ent.box p1 [.string nm, .int .i64 pa, .int .i64 re, .slice ba n0 bc] 35])) ?_
  simp only [List.cons_append, List.nil_append]
  repeat (first | refine g_op rfl ?_ | refine g_then ?_ | refine g_nil ?_ | refine g_region ?_ | refine g_seq ?_ | refine g_alloc rfl fun _ _ => ?_ | refine g_storeAgg ?_ | refine g_block ?_)
  rename_i p3 _
  refine g_loop (fun x : Nat × Option Addr × Nat × List BRow => x.1 ≤ n0 ∧ x.2.2.2.map BRow.blk = splitD bl (critTo bl x.1 0) ∧ ∀ b ∈ x.2.2.2, b.Bd) (fun x => [(5, .int .i64 x.1), (4, .int .i64 n0), (3, .pointer (some ⟨p3, 0, none⟩)), (2, .pointer (some ⟨p2, 0, none⟩)), (1, .pointer (some ⟨p1, 0, none⟩))]) (fun x => Ent.box p3 [.string nm, .int .i64 pa, .int .i64 re, .slice x.2.1 x.2.2.2.length x.2.2.1] 35 :: Ent.box p2 [.string ByteArray.empty, .int .i64 0, .int .i64 0, .slice none 0 0] 35 :: Ent.box p1 [.string nm, .int .i64 pa, .int .i64 re, .slice ba n0 bc] 35 :: fnE x.2.1 x.2.2.1 x.2.2.2) (fun x => n0 - x.1) (0, a, c, bs) ⟨Nat.zero_le _, by simp only; rw [critTo_zero, hnil, hbm], hbd0⟩ (g_done (by repeat (first | exact trivial | refine ⟨rfl, ?_⟩)) (List.Sublist.refl _)) fun x ⟨hb, hxm, hxd⟩ => ?_
  obtain ⟨b, a, c, ys⟩ := x
  simp only at hb hxm hxd ⊢
  repeat (first | refine g_op rfl ?_ | refine g_then ?_ | refine g_nil ?_ | refine g_region ?_ | refine g_seq ?_)
  refine g_cond (fun h1 => ?_) (fun h1 => ?_)
  case refine_2 =>
    obtain rfl : n0 = b := by have := h1; simp at this; omega
    repeat (first | refine g_op rfl ?_ | refine g_then ?_ | refine g_nil ?_ | refine g_region ?_ | refine g_seq ?_ | refine g_storeAgg ?_ | refine g_exit ?_ | refine g_thenExit ?_ | refine g_exitHere ?_ | refine g_ret ?_)
    refine g_retC rfl fun w hw => ⟨(a, c, ys), rfl, hw.sub (List.Sublist.cons _ (List.Sublist.cons _ (List.Sublist.cons _ (List.Sublist.refl _)))), by simp only; rw [hxm, hn0]; rfl, hxd⟩
  have hlt : b < n0 := by simpa using h1
  obtain ⟨B, hB⟩ : ∃ B, bl[b]? = some B := ⟨_, List.getElem?_eq_getElem (by omega)⟩
  have hBto : toOf bl b = B.to := by unfold toOf; rw [hB]
  have hadb : AddrIs ba bb bo := ⟨hba (ne_of_get hB)⟩
  have hlb : LtIs b n0 := ⟨hlt⟩
  obtain ⟨_, hcsB, pv, lv, tv, rfl, _, _, hpv, hlv, htv⟩ := hbel b B hB
  have hciB : CellsIs w0 bb (bo + b * 6) _ := ⟨hcsB⟩
  obtain ⟨ta, m, tc, tb, tz, rfl, hm, _, _, _, hta, htel⟩ := htv
  repeat (first | refine g_op rfl ?_ | refine g_then ?_ | refine g_nil ?_ | refine g_region ?_ | refine g_seq ?_ | refine g_block ?_ | refine g_skip ?_)
  by_cases hm2 : m < 2
  · rw [show decide ((m : Int) < 2) = true by simp; omega]
    repeat (first | refine g_op rfl ?_ | refine g_then ?_ | refine g_nil ?_ | refine g_region ?_ | refine g_opS rfl ?_ | refine g_condT ?_ | refine g_add rfl (by omega) (by omega) ?_ | refine g_exit ?_ | refine g_thenExit ?_ | refine g_exitHere ?_)
    refine g_next (b + 1, a, c, ys) ⟨hlt, by simp only; rw [critTo_next]; unfold critTo at hxm ⊢; rw [edgesTo_none (by rw [hBto]; omega)] at hxm ⊢; exact hxm, hxd⟩ (by simp only; omega) (by repeat (first | exact trivial | refine ⟨rfl, ?_⟩)) (List.Sublist.refl _)
  rw [show decide ((m : Int) < 2) = false by simp; omega]
  repeat (first | refine g_op rfl ?_ | refine g_then ?_ | refine g_nil ?_ | refine g_region ?_ | refine g_seq ?_ | refine g_block ?_ | refine g_skip ?_ | refine g_condF ?_)
  refine g_loop (fun x : Nat × Option Addr × Nat × List BRow => x.1 ≤ m ∧ x.2.2.2.map BRow.blk = splitD bl (critTo bl b x.1) ∧ ∀ b ∈ x.2.2.2, b.Bd) (fun x => [(7, .int .i64 x.1), (6, .slice ta m tc), (5, .int .i64 b), (4, .int .i64 n0), (3, .pointer (some ⟨p3, 0, none⟩)), (2, .pointer (some ⟨p2, 0, none⟩)), (1, .pointer (some ⟨p1, 0, none⟩))]) (fun x => Ent.box p3 [.string nm, .int .i64 pa, .int .i64 re, .slice x.2.1 x.2.2.2.length x.2.2.1] 35 :: Ent.box p2 [.string ByteArray.empty, .int .i64 0, .int .i64 0, .slice none 0 0] 35 :: Ent.box p1 [.string nm, .int .i64 pa, .int .i64 re, .slice ba n0 bc] 35 :: fnE x.2.1 x.2.2.1 x.2.2.2) (fun x => m - x.1) (0, a, c, ys) ⟨Nat.zero_le _, hxm, hxd⟩ (g_done (by repeat (first | exact trivial | refine ⟨rfl, ?_⟩)) (List.Sublist.refl _)) fun x ⟨hk, hzm, hzd⟩ => ?_
  obtain ⟨k, a, c, zs⟩ := x
  simp only at hk hzm hzd ⊢
  repeat (first | refine g_op rfl ?_ | refine g_then ?_ | refine g_nil ?_ | refine g_region ?_ | refine g_seq ?_)
  refine g_cond (fun h2 => ?_) (fun h2 => ?_)
  case refine_2 =>
    obtain rfl : m = k := by have := h2; simp at this; omega
    repeat (first | refine g_op rfl ?_ | refine g_then ?_ | refine g_nil ?_ | refine g_region ?_ | refine g_opS rfl ?_ | refine g_inBlock ?_ | refine g_add rfl (by omega) (by omega) ?_ | refine g_exit ?_ | refine g_thenExit ?_ | refine g_exitHere ?_)
    refine g_next (b + 1, a, c, zs) ⟨hlt, by simp only; rw [critTo_next, hBto, ← hm]; exact hzm, hzd⟩ (by simp only; omega) (by repeat (first | exact trivial | refine ⟨rfl, ?_⟩)) (List.Sublist.refl _)
  have hkm : k < m := by simpa using h2
  obtain ⟨t, ht⟩ : ∃ t, B.to[k]? = some t := ⟨_, List.getElem?_eq_getElem (by omega)⟩
  have hti0 : (toOf bl b)[k]? = some t := by rw [hBto]; exact ht
  have htE := edge_of hg (List.mem_of_getElem? hti0)
  obtain ⟨tn, rfl⟩ : ∃ tn : Nat, t = tn := ⟨t.toNat, by omega⟩
  have hadt : AddrIs ta tb tz := ⟨hta (ne_of_get ht)⟩
  have hlk : LtIs k m := ⟨hkm⟩
  obtain ⟨_, hcst, rfl, _⟩ := htel k _ ht
  have hcit : CellsIs w0 tb (tz + k * 1) _ := ⟨hcst⟩
  have hsucc := critTo_succ hti0
  have hD := critTo_ok hg hnt b k (by rw [hBto]; omega)
  have hDn := critTo_not hg hnt hti0
  rw [Int.toNat_natCast] at hDn hsucc
  have hDl := critTo_len hg b k
  generalize critTo bl b k = D at *
  have htl := toOf_le hg b
  rw [hBto, ← hm] at htl
  have hzl : zs.length = bl.length + D.length := by rw [← splitD_len, ← hzm, List.length_map]
  repeat (first | refine g_op rfl ?_ | refine g_then ?_ | refine g_nil ?_ | refine g_region ?_ | refine g_seq ?_ | refine g_block ?_ | refine g_skip ?_)
  refine g_callE (val := fun x : Option Addr × Nat => .slice x.1 (preds bl tn).length x.2) (E := fun x => [Ent.vec x.1 (preds bl tn).length x.2 3 1 ((preds bl tn).map intN)]) (φ := fun _ => True) rfl (fun w hw => refAhead_c _ _ _ bl _ tn w (hbs0.keep keeps_block hw.chg) (by omega)) fun x _ => ?_
  obtain ⟨aa, ac⟩ := x
  simp only [List.cons_append, List.nil_append]
  repeat (first | refine g_op rfl ?_ | refine g_then ?_ | refine g_nil ?_)
  by_cases hc2 : 1 < (preds bl tn).length
  case neg =>
    rw [show decide (((preds bl tn).length : Int) < 2) = true by simp; omega]
    repeat (first | refine g_op rfl ?_ | refine g_then ?_ | refine g_nil ?_ | refine g_region ?_ | refine g_opS rfl ?_ | refine g_condT ?_ | refine g_add rfl (by omega) (by omega) ?_ | refine g_exit ?_ | refine g_thenExit ?_ | refine g_exitHere ?_)
    have hcp : critP bl b (tn : Int) = false := by unfold critP; rw [Int.toNat_natCast, decide_eq_false hc2, Bool.and_false]
    refine g_next (k + 1, a, c, zs) ⟨hkm, by simp only; rw [hsucc, hcp, if_neg (by simp), List.append_nil]; exact hzm, hzd⟩ (by simp only; omega) (by repeat (first | exact trivial | refine ⟨rfl, ?_⟩)) (List.Sublist.cons _ (List.Sublist.refl _))
  rw [show decide (((preds bl tn).length : Int) < 2) = false by simp; omega]
  have hcp : critP bl b (tn : Int) = true := by unfold critP; rw [Int.toNat_natCast, hBto, ← hm, decide_eq_true hc2, decide_eq_true (show 1 < m by omega)]; rfl
  rw [hcp, if_pos rfl] at hsucc
  have hsp := between_split hg hnd hD (List.mem_of_getElem? hti0) hDn
  obtain ⟨T, hT⟩ : ∃ T, zs[tn]? = some T := ⟨_, List.getElem?_eq_getElem (by omega)⟩
  refine g_wd (H' := [Ent.box p3 [.string nm, .int .i64 pa, .int .i64 re, .slice a zs.length c] 35, Ent.box p2 [.string ByteArray.empty, .int .i64 0, .int .i64 0, .slice none 0 0] 35, Ent.box p1 [.string nm, .int .i64 pa, .int .i64 re, .slice ba n0 bc] 35] ++ (Ent.vec a zs.length c 47 6 (zs.flatMap blkC) :: Ent.vec T.pa T.ps.length T.pc 69 2 (T.ps.flatMap phiC) :: lvE T :: tvE T :: (T.ps.map phE ++ (T.xs.map roE ++ (zs.eraseIdx tn).map blkE)))) (fun w hw => wd_openB hT (X := [Ent.box p3 [.string nm, .int .i64 pa, .int .i64 re, .slice a zs.length c] 35, Ent.box p2 [.string ByteArray.empty, .int .i64 0, .int .i64 0, .slice none 0 0] 35, Ent.box p1 [.string nm, .int .i64 pa, .int .i64 re, .slice ba n0 bc] 35]) (hw.sub (List.Sublist.cons _ (List.Sublist.refl _)))) ?_
  simp only [List.cons_append, List.nil_append]
  repeat (first | refine g_op rfl ?_ | refine g_then ?_ | refine g_nil ?_ | refine g_region ?_ | refine g_seq ?_ | refine g_block ?_ | refine g_skip ?_ | refine g_condF ?_)
  obtain ⟨fr, hfr⟩ : ∃ fr, fr = zs.length := ⟨_, rfl⟩
  obtain ⟨P, hP⟩ : ∃ P, P = preds (splitD bl D) tn := ⟨_, rfl⟩
  have hPl : ∀ q ∈ P, q < fr := fun q hq => by rw [hP] at hq; have := preds_lt _ _ q hq; rw [splitD_len] at this; omega
  have hTb : (splitD bl D)[tn]? = some T.blk := by rw [← hzm, List.getElem?_map, hT]; rfl
  have hTl : ∀ q ∈ T.ps, q.l.length = P.length := fun q hq => by
    rw [hP]
    exact (((splitD_funcOk hf hD).block tn T.blk hTb).phis q.phi (List.mem_map.2 ⟨q, hq, rfl⟩)).len
  have hTd := hzd T (List.mem_of_getElem? hT)
  have hbt : (tn : Int) ∈ toOf (splitD bl D) b := (mem_toOf hg (by omega) (by omega)).2 ⟨List.mem_of_getElem? hti0, hDn⟩
  have hbP : b ∈ P := by rw [hP]; exact preds_mem (by rw [splitD_len]; omega) hbt
  obtain ⟨k0, hk0⟩ : ∃ k0, k0 = P.idxOf b := ⟨_, rfl⟩
  have hk0l : k0 < P.length := by rw [hk0]; exact List.idxOf_lt_length_of_mem hbP
  have hPlen : P.length ≤ 100 := by
    rw [hP]
    exact Nat.le_trans (List.length_filter_le _ _) (by rw [List.length_range, splitD_len]; omega)
  have hpp : ∀ ps : List PRow, preds ((zs.set tn (withPs T ps)).map BRow.blk) tn = P := fun ps => by
    rw [hP]
    refine preds_same (by rw [List.length_map, List.length_set, splitD_len]; exact hzl) (fun i => ?_) tn
    rw [← hzm]
    unfold toOf
    rw [List.getElem?_map, List.getElem?_map, List.getElem?_set]
    by_cases e : tn = i
    · subst e
      rw [if_pos rfl, if_pos (by omega), hT]
      rfl
    · rw [if_neg e]
  have hturn : ∀ q ∈ T.ps, rowR ((zipE P q.l).map (repE b fr)) (fr + 1) = (turnP k0 q.phi).src := fun q hq => by
    rw [rowR_turn (by rw [hP]; exact preds_srt _ _) hPl (hTl q hq).symm hbP, ← hk0]
    rfl
  rw [← hfr]
  refine g_loop (fun es : List PRow => es.length ≤ T.ps.length ∧ es.map PRow.phi = (T.ps.take es.length).map (fun q => turnP k0 q.phi) ∧ ∀ q ∈ es, inI q.dst ∧ q.l.length ≤ 1000 ∧ ∀ v ∈ q.l, inI v.n) (fun es => [(10, .int .i64 es.length), (9, .int .i64 fr), (8, .int .i64 tn), (7, .int .i64 k), (6, .slice ta m tc), (5, .int .i64 b), (4, .int .i64 n0), (3, .pointer (some ⟨p3, 0, none⟩)), (2, .pointer (some ⟨p2, 0, none⟩)), (1, .pointer (some ⟨p1, 0, none⟩))]) (fun es => Ent.box p3 [.string nm, .int .i64 pa, .int .i64 re, .slice a fr c] 35 :: Ent.box p2 [.string ByteArray.empty, .int .i64 0, .int .i64 0, .slice none 0 0] 35 :: Ent.box p1 [.string nm, .int .i64 pa, .int .i64 re, .slice ba n0 bc] 35 :: Ent.vec a fr c 47 6 (zs.flatMap blkC) :: Ent.vec T.pa T.ps.length T.pc 69 2 ((es ++ T.ps.drop es.length).flatMap phiC) :: lvE T :: tvE T :: ((es ++ T.ps.drop es.length).map phE ++ (T.xs.map roE ++ (zs.eraseIdx tn).map blkE))) (fun es => T.ps.length - es.length) [] ⟨Nat.zero_le _, rfl, by simp⟩ (g_done (by repeat (first | exact trivial | refine ⟨rfl, ?_⟩)) (List.Sublist.refl _)) fun es ⟨hi, hem, heb⟩ => ?_
  refine g_vec 3 rfl (by omega) fun vb vo hva => ?_
  subst hva
  have hltn : LtIs tn fr := ⟨by omega⟩
  have hcell : ∀ (q : Nat) v, (blkC T)[q]? = some v → (zs.flatMap blkC)[tn * 6 + q]? = some v := fun q v hv => flat_at blkC_len zs tn T q v hT hv
  have hoc : ∀ (X1 X2 X3 : Ent) (Y : List Ent), OwnCell (X1 :: X2 :: X3 :: Ent.vec (some ⟨vb, vo, none⟩) fr c 47 6 (zs.flatMap blkC) :: Y) vb (vo + tn * 6) (.slice T.pa T.ps.length T.pc) := fun _ _ _ _ => ⟨fun _ _ _ hw => hw.vecCell (k := 3) rfl (hcell 0 _ rfl)⟩
  repeat (first | refine g_op rfl ?_ | refine g_then ?_ | refine g_nil ?_ | refine g_region ?_ | refine g_seq ?_)
  refine g_cond (fun h3 => ?_) (fun h3 => ?_)
  · have hltp : es.length < T.ps.length := by simpa using h3
    generalize hjL : es.length = j at *
    obtain ⟨p, hp⟩ : ∃ p, T.ps[j]? = some p := ⟨_, List.getElem?_eq_getElem hltp⟩
    have hpm := List.mem_of_getElem? hp
    have hpT := hTl p hpm
    have hpd := hTd.phi p hpm
    have hps := hTd.phis
    have hget : (es ++ T.ps.drop j)[j]? = some p := by rw [List.getElem?_append_right (by omega), hjL, Nat.sub_self, List.getElem?_drop, Nat.add_zero]; exact hp
    have hpsl : (es ++ T.ps.drop j).length = T.ps.length := by rw [List.length_append, List.length_drop]; omega
    obtain ⟨ps', hps'⟩ : ∃ ps', ps' = es ++ T.ps.drop j := ⟨_, rfl⟩
    rw [← hps'] at hget hpsl ⊢
    have hpsm : p ∈ ps' := List.mem_of_getElem? hget
    have hpsb : ∀ q ∈ ps', inI q.dst ∧ q.l.length ≤ 1000 ∧ ∀ v ∈ q.l, inI v.n := fun q hq => by
      rw [hps'] at hq
      rcases List.mem_append.1 hq with hq | hq
      · exact heb q hq
      · exact hTd.phi q (List.mem_of_mem_drop hq)
    have hbdz : ∀ q ∈ zs.set tn (withPs T ps'), q.Bd := fun q hq => by
      rcases List.mem_or_eq_of_mem_set hq with hq | rfl
      · exact hzd q hq
      · exact ⟨hTd.kind, hTd.on, by unfold withPs; simp only; omega, hpsb, hTd.list, hTd.ins, hTd.to⟩
    refine g_vec 4 rfl (by omega) fun qb qo hqa => ?_
    rw [hqa] at hoc ⊢
    have hlj : LtIs j T.ps.length := ⟨hltp⟩
    have hshut : ∀ w, Wd NoS w0 (Ent.box p3 [.string nm, .int .i64 pa, .int .i64 re, .slice (some ⟨vb, vo, none⟩) fr c] 35 :: Ent.box p2 [.string ByteArray.empty, .int .i64 0, .int .i64 0, .slice none 0 0] 35 :: Ent.box p1 [.string nm, .int .i64 pa, .int .i64 re, .slice ba n0 bc] 35 :: Ent.vec (some ⟨vb, vo, none⟩) fr c 47 6 (zs.flatMap blkC) :: Ent.vec (some ⟨qb, qo, none⟩) T.ps.length T.pc 69 2 (ps'.flatMap phiC) :: lvE T :: tvE T :: (ps'.map phE ++ (T.xs.map roE ++ (zs.eraseIdx tn).map blkE))) w → SlAt w (.slice (some ⟨vb, vo, none⟩) fr c) 6 ((zs.set tn (withPs T ps')).map BRow.blk) BlockV := fun w hw => by
      have h4 := wd_shut (X := [Ent.box p3 [.string nm, .int .i64 pa, .int .i64 re, .slice (some ⟨vb, vo, none⟩) fr c] 35, Ent.box p2 [.string ByteArray.empty, .int .i64 0, .int .i64 0, .slice none 0 0] 35, Ent.box p1 [.string nm, .int .i64 pa, .int .i64 re, .slice ba n0 bc] 35]) (a := some ⟨vb, vo, none⟩) (n := fr) (c := c) hT hfr hpsl (by rw [hqa]; exact hw)
      have h5 := Wd.blocks (H := []) (h4.sub (H' := fnE (some ⟨vb, vo, none⟩) c (zs.set tn (withPs T ps')) ++ []) (by rw [List.append_nil]; exact List.sublist_append_right _ _)) (by rw [List.length_set]; omega) hbdz
      rw [List.length_set, ← hfr] at h5
      exact h5
    have hocR : ∀ (X : Ent) (Y : List Ent), OwnCell (X :: Ent.vec (some ⟨vb, vo, none⟩) fr c 47 6 (zs.flatMap blkC) :: Y) vb (vo + tn * 6) (.slice (some ⟨qb, qo, none⟩) T.ps.length T.pc) := fun _ _ => ⟨fun _ _ _ hw => by have := hw.vecCell (k := 1) rfl (hcell 0 _ rfl); rw [hqa] at this; exact this⟩
    have hobR : ∀ (X1 X2 : Ent) (Y : List Ent), OwnAgg (X1 :: X2 :: Ent.vec (some ⟨qb, qo, none⟩) T.ps.length T.pc 69 2 (ps'.flatMap phiC) :: Y) qb (qo + j * 2) (phiC p) := fun _ _ _ => ownAgg (k := 2) rfl phiC_len hget
    simp only [phiC] at hobR
    have hlps : LtIs j T.ps.length := ⟨hltp⟩
    repeat (first | refine g_then ?_ | refine g_seq ?_ | refine g_block ?_ | refine g_skip ?_)
    refine g_drawX [Ent.box p3 [.string nm, .int .i64 pa, .int .i64 re, .slice (some ⟨vb, vo, none⟩) fr c] 35, Ent.vec (some ⟨vb, vo, none⟩) fr c 47 6 (zs.flatMap blkC), Ent.vec (some ⟨qb, qo, none⟩) T.ps.length T.pc 69 2 (ps'.flatMap phiC)] (fun _ : Option Addr × Nat => True) (fun x => [(11, .slice x.1 P.length x.2), (10, .int .i64 j), (9, .int .i64 fr), (8, .int .i64 tn), (7, .int .i64 k), (6, .slice ta m tc), (5, .int .i64 b), (4, .int .i64 n0), (3, .pointer (some ⟨p3, 0, none⟩)), (2, .pointer (some ⟨p2, 0, none⟩)), (1, .pointer (some ⟨p1, 0, none⟩))]) (fun x => Ent.vec x.1 P.length x.2 91 3 ((zipE P p.l).flatMap edC) :: Ent.box p3 [.string nm, .int .i64 pa, .int .i64 re, .slice (some ⟨vb, vo, none⟩) fr c] 35 :: Ent.box p2 [.string ByteArray.empty, .int .i64 0, .int .i64 0, .slice none 0 0] 35 :: Ent.box p1 [.string nm, .int .i64 pa, .int .i64 re, .slice ba n0 bc] 35 :: Ent.vec (some ⟨vb, vo, none⟩) fr c 47 6 (zs.flatMap blkC) :: Ent.vec (some ⟨qb, qo, none⟩) T.ps.length T.pc 69 2 (ps'.flatMap phiC) :: lvE T :: tvE T :: (ps'.map phE ++ (T.xs.map roE ++ (zs.eraseIdx tn).map blkE))) mixed (.cons_cons _ (.cons _ (.cons _ (.cons_cons _ (.cons_cons _ (List.nil_sublist _)))))) ?_ fun x _ => ?_
    · skip
      refine h_take 0 rfl (by decide +kernel) (.cons_cons _ (.cons _ (.cons _ (.cons_cons _ (.cons_cons _ (List.nil_sublist _)))))) ?_
      refine h_take 1 rfl (by decide +kernel) (.cons_cons _ (.cons _ (.cons _ (.cons_cons _ (.cons_cons _ (List.nil_sublist _)))))) ?_
      refine h_take 2 rfl (by decide +kernel) (.cons_cons _ (.cons _ (.cons _ (.cons_cons _ (.cons_cons _ (List.nil_sublist _)))))) ?_
      refine h_take 3 rfl (by decide +kernel) (.cons_cons _ (.cons _ (.cons _ (.cons_cons _ (.cons_cons _ (List.nil_sublist _)))))) ?_
      refine h_take 4 rfl (by decide +kernel) (.cons_cons _ (.cons _ (.cons _ (.cons_cons _ (.cons_cons _ (List.nil_sublist _)))))) ?_
      refine h_take 5 rfl (by decide +kernel) (.cons_cons _ (.cons _ (.cons _ (.cons_cons _ (.cons_cons _ (List.nil_sublist _)))))) ?_
      refine h_take 6 rfl (by decide +kernel) (.cons_cons _ (.cons _ (.cons _ (.cons_cons _ (.cons_cons _ (List.nil_sublist _)))))) ?_
      refine h_take 7 rfl (by decide +kernel) (.cons_cons _ (.cons _ (.cons _ (.cons_cons _ (.cons_cons _ (List.nil_sublist _)))))) ?_
      refine h_take 8 rfl (by decide +kernel) (.cons_cons _ (.cons _ (.cons _ (.cons_cons _ (.cons_cons _ (List.nil_sublist _)))))) ?_
      refine h_take 9 rfl (by decide +kernel) (.cons_cons _ (.cons _ (.cons _ (.cons_cons _ (.cons_cons _ (List.nil_sublist _)))))) ?_
      refine h_take 10 rfl (by decide +kernel) (.cons_cons _ (.cons _ (.cons _ (.cons_cons _ (.cons_cons _ (List.nil_sublist _)))))) ?_
      refine h_callE 11 (val := fun x : Option Addr × Nat => .slice x.1 P.length x.2) (E := fun x => [Ent.vec x.1 P.length x.2 91 3 ((zipE P p.l).flatMap edC)]) (φ := fun _ => True) rfl (by decide +kernel) (.cons_cons _ (.cons _ (.cons _ (.cons_cons _ (.cons_cons _ (List.nil_sublist _)))))) (fun w hw => ?_) fun x _ => ?_
      · have h6 := refEdges_c (.string nm) (.int .i64 pa) (.int .i64 re) _ (.slice (some ⟨vb, vo, none⟩) fr c) ⟨_, _, _, rfl⟩ tn p.dst p.a p.l.length p.c p.l w (hshut w hw) (by rw [List.length_map, List.length_set]; omega) (wd_src hw (by simp only [List.mem_cons, List.mem_append]; exact .inr (.inr (.inr (.inr (.inr (.inr (.inr (.inl (List.mem_map.2 ⟨p, hpsm, rfl⟩)))))))))  hpd.2) (by rw [hpp]; exact hpT)
        unfold edgesL at h6
        rw [hpp] at h6
        exact h6
      simp only [List.cons_append, List.nil_append]
      refine h_take 12 rfl (by decide +kernel) (.cons _ (.cons_cons _ (.cons _ (.cons _ (.cons_cons _ (.cons_cons _ (List.nil_sublist _))))))) ?_
      refine h_end (by decide +kernel) ?_
      exact g_mem x trivial (by repeat (first | exact trivial | refine ⟨rfl, ?_⟩)) (List.Sublist.refl _)
    obtain ⟨ea, ec⟩ := x
    simp only
    repeat (first | refine g_op rfl ?_ | refine g_then ?_ | refine g_nil ?_ | refine g_region ?_ | refine g_seq ?_ | refine g_block ?_)
    have hzlen : (zipE P p.l).length = P.length := by unfold zipE; rw [List.length_zip, List.length_map]; omega
    refine g_loop (fun i : Nat => i ≤ P.length) (fun i => [(12, .int .i64 i), (11, .slice ea P.length ec), (10, .int .i64 j), (9, .int .i64 fr), (8, .int .i64 tn), (7, .int .i64 k), (6, .slice ta m tc), (5, .int .i64 b), (4, .int .i64 n0), (3, .pointer (some ⟨p3, 0, none⟩)), (2, .pointer (some ⟨p2, 0, none⟩)), (1, .pointer (some ⟨p1, 0, none⟩))]) (fun i => Ent.vec ea P.length ec 91 3 ((((zipE P p.l).take i).map (repE b fr) ++ (zipE P p.l).drop i).flatMap edC) :: Ent.box p3 [.string nm, .int .i64 pa, .int .i64 re, .slice (some ⟨vb, vo, none⟩) fr c] 35 :: Ent.box p2 [.string ByteArray.empty, .int .i64 0, .int .i64 0, .slice none 0 0] 35 :: Ent.box p1 [.string nm, .int .i64 pa, .int .i64 re, .slice ba n0 bc] 35 :: Ent.vec (some ⟨vb, vo, none⟩) fr c 47 6 (zs.flatMap blkC) :: Ent.vec (some ⟨qb, qo, none⟩) T.ps.length T.pc 69 2 (ps'.flatMap phiC) :: lvE T :: tvE T :: (ps'.map phE ++ (T.xs.map roE ++ (zs.eraseIdx tn).map blkE))) (fun i => P.length - i) 0 (Nat.zero_le _) (g_done (by repeat (first | exact trivial | refine ⟨rfl, ?_⟩)) (List.Sublist.refl _)) fun i hi => ?_
    repeat (first | refine g_op rfl ?_ | refine g_then ?_ | refine g_nil ?_ | refine g_region ?_ | refine g_seq ?_)
    refine g_cond (fun h4 => ?_) (fun h4 => ?_)
    · have hlti : i < P.length := by simpa using h4
      obtain ⟨e, he⟩ : ∃ e, (zipE P p.l)[i]? = some e := ⟨_, List.getElem?_eq_getElem (by omega)⟩
      have hlen1 : ((zipE P p.l).take i).length = i := by rw [List.length_take]; omega
      have hgete : (((zipE P p.l).take i).map (repE b fr) ++ (zipE P p.l).drop i)[i]? = some e := by
        rw [List.getElem?_append_right (by rw [List.length_map]; omega), List.length_map, hlen1, Nat.sub_self, List.getElem?_drop, Nat.add_zero]; exact he
      have hnx : (((zipE P p.l).take i).map (repE b fr) ++ (zipE P p.l).drop i).set i (repE b fr e) = ((zipE P p.l).take (i + 1)).map (repE b fr) ++ (zipE P p.l).drop (i + 1) := by
        rw [set_mid (by rw [List.length_map]; exact hlen1) (by omega), List.take_add_one, he, List.map_append]
        rfl
      refine g_vec 0 rfl (by omega) fun eb eo hea => ?_
      subst hea
      have hlie : LtIs i P.length := ⟨hlti⟩
      have hoe : ∀ (Y : List Ent), OwnCell (Ent.vec (some ⟨eb, eo, none⟩) P.length ec 91 3 ((((zipE P p.l).take i).map (repE b fr) ++ (zipE P p.l).drop i).flatMap edC) :: Y) eb (eo + i * 3) (.int .i64 e.1) := fun Y => ⟨fun _ _ _ hw => hw.vecCell (k := 0) rfl (flat_at edC_len _ i e 0 _ hgete rfl)⟩
      repeat (first | refine g_op rfl ?_ | refine g_then ?_ | refine g_nil ?_ | refine g_region ?_ | refine g_seq ?_ | refine g_block ?_ | refine g_skip ?_)
      by_cases hb5 : e.1 = (b : Int)
      · rw [show decide (e.1 = (b : Int)) = true by simp [hb5]]
        have hre : repE b fr e = ((fr : Int), e.2) := by unfold repE; rw [if_pos hb5]
        have hot : ∀ (Y : List Ent), OwnAt (Ent.vec (some ⟨eb, eo, none⟩) P.length ec 91 3 ((((zipE P p.l).take i).map (repE b fr) ++ (zipE P p.l).drop i).flatMap edC) :: Y) eb (eo + i * 3) 0 eo (i * 3 + 0) P.length ec 91 3 ((((zipE P p.l).take i).map (repE b fr) ++ (zipE P p.l).drop i).flatMap edC) := fun _ => ⟨rfl, by omega⟩
        have hxe : XSet ((((zipE P p.l).take i).map (repE b fr) ++ (zipE P p.l).drop i).flatMap edC) (i * 3 + 0) (.int .i64 fr) ((((zipE P p.l).take (i + 1)).map (repE b fr) ++ (zipE P p.l).drop (i + 1)).flatMap edC) := ⟨by
          rw [flat_set edC_len hgete (k := 0) (y := repE b fr e) (by decide) (by rw [hre]; rfl), hnx], by rw [flat_len edC_len, List.length_append, List.length_map, List.length_drop]; omega⟩
        repeat (first | refine g_op rfl ?_ | refine g_then ?_ | refine g_nil ?_ | refine g_region ?_ | refine g_opS rfl ?_ | refine g_inBlock ?_ | refine g_condT ?_ | refine g_add rfl (by omega) (by omega) ?_ | refine g_storeV ?_)
        exact g_next (i + 1) hlti (by omega) (by repeat (first | exact trivial | refine ⟨rfl, ?_⟩)) (List.Sublist.refl _)
      · rw [show decide (e.1 = (b : Int)) = false by simp [hb5]]
        have hre : repE b fr e = e := by unfold repE; rw [if_neg hb5]
        have hsame : ((zipE P p.l).take (i + 1)).map (repE b fr) ++ (zipE P p.l).drop (i + 1) = ((zipE P p.l).take i).map (repE b fr) ++ (zipE P p.l).drop i := by
          rw [← hnx, hre]
          exact set_self hgete
        rw [← hsame]
        repeat (first | refine g_op rfl ?_ | refine g_then ?_ | refine g_nil ?_ | refine g_region ?_ | refine g_opS rfl ?_ | refine g_inBlock ?_ | refine g_skip ?_ | refine g_condF ?_ | refine g_add rfl (by omega) (by omega) ?_)
        exact g_next (i + 1) hlti (by omega) (by repeat (first | exact trivial | refine ⟨rfl, ?_⟩)) (List.Sublist.refl _)
    · obtain rfl : P.length = i := by have := h4; simp at this; omega
      have hall : ((zipE P p.l).take P.length).map (repE b fr) ++ (zipE P p.l).drop P.length = (zipE P p.l).map (repE b fr) := by
        rw [List.take_of_length_le (by omega), List.drop_eq_nil_of_le (by omega), List.append_nil]
      rw [hall]
      obtain ⟨rw', hrw⟩ : ∃ rw', rw' = rowR ((zipE P p.l).map (repE b fr)) (fr + 1) := ⟨_, rfl⟩
      have hrwl := rowR_len ((zipE P p.l).map (repE b fr)) (fr + 1)
      rw [← hrw] at hrwl
      obtain ⟨nq, hnq⟩ : ∃ nq : Option Addr × Nat → PRow, nq = fun y => ⟨p.dst, y.1, y.2, rw'⟩ := ⟨_, rfl⟩
      have hadd : ∀ (L : List (Nat × Value)) (H : List Ent) (T T2 : Nat) (x y : Operand) [Ev L x (.int .i64 (fr : Int))] [Ev L y (.int .i64 1)], RunsC Tryd.prog 125 [] NoS w0 L H (.binOp .add T x y T2) (.int .i64 ((fr + 1 : Nat) : Int)) := fun L H T T2 x y _ _ => by
        have := runs_add (P := Tryd.prog) (N := 125) (ds := []) (S := NoS) (w0 := w0) (L := L) (H := H) (T := T) (T2 := T2) (x := x) (y := y) (m := (fr : Int)) (n := 1) (by omega) (by omega)
        rwa [show (fr : Int) + 1 = ((fr + 1 : Nat) : Int) by omega] at this
      have hotq : ∀ (X0 X1 X2 X3 X4 X5 : Ent) (Y : List Ent), OwnAt (X0 :: X1 :: X2 :: X3 :: X4 :: X5 :: Ent.vec (some ⟨qb, qo, none⟩) T.ps.length T.pc 69 2 (ps'.flatMap phiC) :: Y) qb (qo + j * 2 + 1) 6 qo (j * 2 + 1) T.ps.length T.pc 69 2 (ps'.flatMap phiC) := fun _ _ _ _ _ _ _ => ⟨rfl, by omega⟩
      have hxq : ∀ na nc, XSet (ps'.flatMap phiC) (j * 2 + 1) (.slice na rw'.length nc) ((ps'.set j (nq (na, nc))).flatMap phiC) := fun na nc => ⟨flat_set phiC_len hget (by decide) (by rw [hnq]; rfl), by rw [flat_len phiC_len]; omega⟩
      repeat (first | refine g_then ?_ | refine g_exit ?_ | refine g_thenExit ?_ | refine g_exitHere ?_)
      refine g_drawX [Ent.box p3 [.string nm, .int .i64 pa, .int .i64 re, .slice (some ⟨vb, vo, none⟩) fr c] 35, Ent.vec (some ⟨vb, vo, none⟩) fr c 47 6 (zs.flatMap blkC)] (fun _ : Option Addr × Nat => True) (fun _ => [(10, .int .i64 j), (9, .int .i64 fr), (8, .int .i64 tn), (7, .int .i64 k), (6, .slice ta m tc), (5, .int .i64 b), (4, .int .i64 n0), (3, .pointer (some ⟨p3, 0, none⟩)), (2, .pointer (some ⟨p2, 0, none⟩)), (1, .pointer (some ⟨p1, 0, none⟩))]) (fun y => Ent.vec y.1 rw'.length y.2 41 2 (rw'.flatMap vlC) :: Ent.vec ea P.length ec 91 3 (((zipE P p.l).map (repE b fr)).flatMap edC) :: Ent.box p3 [.string nm, .int .i64 pa, .int .i64 re, .slice (some ⟨vb, vo, none⟩) fr c] 35 :: Ent.box p2 [.string ByteArray.empty, .int .i64 0, .int .i64 0, .slice none 0 0] 35 :: Ent.box p1 [.string nm, .int .i64 pa, .int .i64 re, .slice ba n0 bc] 35 :: Ent.vec (some ⟨vb, vo, none⟩) fr c 47 6 (zs.flatMap blkC) :: Ent.vec (some ⟨qb, qo, none⟩) T.ps.length T.pc 69 2 ((ps'.set j (nq y)).flatMap phiC) :: lvE T :: tvE T :: (ps'.map phE ++ (T.xs.map roE ++ (zs.eraseIdx tn).map blkE))) mixed (by first | exact .cons _ (.cons_cons _ (.cons _ (.cons _ (.cons_cons _ (List.nil_sublist _))))) | exact .cons _ (.cons _ (.cons_cons _ (.cons _ (.cons _ (.cons_cons _ (List.nil_sublist _))))))) ?_ fun y _ => ?_
      · skip
        refine h_take 0 rfl (by decide +kernel) (by first | exact .cons _ (.cons_cons _ (.cons _ (.cons _ (.cons_cons _ (List.nil_sublist _))))) | exact .cons _ (.cons _ (.cons_cons _ (.cons _ (.cons _ (.cons_cons _ (List.nil_sublist _))))))) ?_
        refine h_take 1 rfl (by decide +kernel) (by first | exact .cons _ (.cons_cons _ (.cons _ (.cons _ (.cons_cons _ (List.nil_sublist _))))) | exact .cons _ (.cons _ (.cons_cons _ (.cons _ (.cons _ (.cons_cons _ (List.nil_sublist _))))))) ?_
        refine h_take 2 rfl (by decide +kernel) (by first | exact .cons _ (.cons_cons _ (.cons _ (.cons _ (.cons_cons _ (List.nil_sublist _))))) | exact .cons _ (.cons _ (.cons_cons _ (.cons _ (.cons _ (.cons_cons _ (List.nil_sublist _))))))) ?_
        refine h_take 3 rfl (by decide +kernel) (by first | exact .cons _ (.cons_cons _ (.cons _ (.cons _ (.cons_cons _ (List.nil_sublist _))))) | exact .cons _ (.cons _ (.cons_cons _ (.cons _ (.cons _ (.cons_cons _ (List.nil_sublist _))))))) ?_
        refine h_take 4 rfl (by decide +kernel) (by first | exact .cons _ (.cons_cons _ (.cons _ (.cons _ (.cons_cons _ (List.nil_sublist _))))) | exact .cons _ (.cons _ (.cons_cons _ (.cons _ (.cons _ (.cons_cons _ (List.nil_sublist _))))))) ?_
        refine h_take 5 rfl (by decide +kernel) (by first | exact .cons _ (.cons_cons _ (.cons _ (.cons _ (.cons_cons _ (List.nil_sublist _))))) | exact .cons _ (.cons _ (.cons_cons _ (.cons _ (.cons _ (.cons_cons _ (List.nil_sublist _))))))) ?_
        refine h_take 6 rfl (by decide +kernel) (by first | exact .cons _ (.cons_cons _ (.cons _ (.cons _ (.cons_cons _ (List.nil_sublist _))))) | exact .cons _ (.cons _ (.cons_cons _ (.cons _ (.cons _ (.cons_cons _ (List.nil_sublist _))))))) ?_
        refine h_take 7 rfl (by decide +kernel) (by first | exact .cons _ (.cons_cons _ (.cons _ (.cons _ (.cons_cons _ (List.nil_sublist _))))) | exact .cons _ (.cons _ (.cons_cons _ (.cons _ (.cons _ (.cons_cons _ (List.nil_sublist _))))))) ?_
        refine h_take 8 rfl (by decide +kernel) (by first | exact .cons _ (.cons_cons _ (.cons _ (.cons _ (.cons_cons _ (List.nil_sublist _))))) | exact .cons _ (.cons _ (.cons_cons _ (.cons _ (.cons _ (.cons_cons _ (List.nil_sublist _))))))) ?_
        refine h_take 9 rfl (by decide +kernel) (by first | exact .cons _ (.cons_cons _ (.cons _ (.cons _ (.cons_cons _ (List.nil_sublist _))))) | exact .cons _ (.cons _ (.cons_cons _ (.cons _ (.cons _ (.cons_cons _ (List.nil_sublist _))))))) ?_
        refine h_callE 10 (val := fun x : Option Addr × Nat => .slice x.1 rw'.length x.2) (E := fun x => [Ent.vec x.1 rw'.length x.2 41 2 (rw'.flatMap vlC)]) (φ := fun _ => True) rfl (by decide +kernel) (by first | exact .cons _ (.cons_cons _ (.cons _ (.cons _ (.cons_cons _ (List.nil_sublist _))))) | exact .cons _ (.cons _ (.cons_cons _ (.cons _ (.cons _ (.cons_cons _ (List.nil_sublist _))))))) (fun w hw => ?_) fun x _ => ?_
        · rw [hrw]
          exact refRow_c ea P.length ec _ (fr + 1) (by omega) w (by
            have h7 := flat_sl (k := 0) (l := (zipE P p.l).map (repE b fr)) (a := ea) (c := ec) (e := 91) hw (by rw [List.length_map, hzlen]; rfl) edC_len (by rw [List.length_map]; omega)
            rw [List.length_map, hzlen] at h7
            exact h7)
        simp only [List.cons_append, List.nil_append]
        refine h_take 11 rfl (by decide +kernel) (by first | exact .cons _ (.cons_cons _ (.cons _ (.cons _ (.cons_cons _ (List.nil_sublist _))))) | exact .cons _ (.cons _ (.cons_cons _ (.cons _ (.cons _ (.cons_cons _ (List.nil_sublist _))))))) ?_
        refine h_take 12 rfl (by decide +kernel) (by first | exact .cons _ (.cons_cons _ (.cons _ (.cons _ (.cons_cons _ (List.nil_sublist _))))) | exact .cons _ (.cons _ (.cons_cons _ (.cons _ (.cons _ (.cons_cons _ (List.nil_sublist _))))))) ?_
        refine h_one 13 (by decide +kernel) ?_
        refine o_storeV 13 (by first | exact .cons _ (.cons_cons _ (.cons _ (.cons _ (.cons_cons _ (List.nil_sublist _))))) | exact .cons _ (.cons _ (.cons_cons _ (.cons _ (.cons _ (.cons_cons _ (List.nil_sublist _))))))) ?_
        refine h_end (by decide +kernel) ?_
        exact g_mem x trivial (by repeat (first | exact trivial | refine ⟨rfl, ?_⟩)) (List.Sublist.refl _)
      obtain ⟨na, nc⟩ := y
      have hes' : ps'.set j (nq (na, nc)) = (es ++ [nq (na, nc)]) ++ T.ps.drop (j + 1) := by rw [hps']; exact set_mid hjL hltp
      have hl1 : (es ++ [nq (na, nc)]).length = j + 1 := by rw [List.length_append, hjL]; rfl
      have hnqE : phE (nq (na, nc)) = Ent.vec na rw'.length nc 41 2 (rw'.flatMap vlC) := by rw [hnq]; rfl
      have hrwsrc : rw' = (turnP k0 p.phi).src := by rw [hrw]; exact hturn p hpm
      have hrwm : ∀ v ∈ rw', inI v.n := fun v hv => by
        rw [hrwsrc] at hv
        unfold turnP PRow.phi at hv
        simp only at hv
        rcases List.mem_append.1 hv with hv | hv
        · exact hpd.2.2 v (List.mem_of_mem_eraseIdx hv)
        · rw [List.mem_singleton.1 hv, List.getD_eq_getElem?_getD, List.getElem?_eq_getElem (by omega), Option.getD_some]
          exact hpd.2.2 _ (List.getElem_mem _)
      refine g_wd (H' := Ent.box p3 [.string nm, .int .i64 pa, .int .i64 re, .slice (some ⟨vb, vo, none⟩) fr c] 35 :: Ent.box p2 [.string ByteArray.empty, .int .i64 0, .int .i64 0, .slice none 0 0] 35 :: Ent.box p1 [.string nm, .int .i64 pa, .int .i64 re, .slice ba n0 bc] 35 :: Ent.vec (some ⟨vb, vo, none⟩) fr c 47 6 (zs.flatMap blkC) :: Ent.vec (some ⟨qb, qo, none⟩) T.ps.length T.pc 69 2 (((es ++ [nq (na, nc)]) ++ T.ps.drop (es ++ [nq (na, nc)]).length).flatMap phiC) :: lvE T :: tvE T :: (((es ++ [nq (na, nc)]) ++ T.ps.drop (es ++ [nq (na, nc)]).length).map phE ++ (T.xs.map roE ++ (zs.eraseIdx tn).map blkE))) (fun w hw => ?_) ?_
      · rw [hl1, ← hes']
        refine hw.pick ⟨[phE p, Ent.vec ea P.length ec 91 3 (((zipE P p.l).map (repE b fr)).flatMap edC)], ?_⟩
        have h2 := map_pull phE hget
        have h3 := map_pull phE (l := ps'.set j (nq (na, nc))) (k := j) (x := nq (na, nc)) (List.getElem?_set_self (by omega))
        rw [List.eraseIdx_set_eq, hnqE] at h3
        classical
        refine List.perm_iff_count.2 fun e => ?_
        have h4 := List.perm_iff_count.1 h2 e
        have h5 := List.perm_iff_count.1 h3 e
        simp only [List.count_append, List.count_cons, List.count_nil] at h4 h5 ⊢
        omega
      repeat (first | refine g_op rfl ?_ | refine g_then ?_ | refine g_nil ?_ | refine g_region ?_ | refine g_opS rfl ?_ | refine g_inBlock ?_ | refine g_add rfl (by omega) (by omega) ?_)
      refine g_fix (L' := [(10, .int .i64 ((es ++ [nq (na, nc)]).length : Nat)), (9, .int .i64 fr), (8, .int .i64 tn), (7, .int .i64 k), (6, .slice ta m tc), (5, .int .i64 b), (4, .int .i64 n0), (3, .pointer (some ⟨p3, 0, none⟩)), (2, .pointer (some ⟨p2, 0, none⟩)), (1, .pointer (some ⟨p1, 0, none⟩))]) ?_ (List.Sublist.refl _) ?_
      · rw [hl1]
        exact (by repeat (first | exact trivial | refine ⟨rfl, ?_⟩))
      refine g_next (es ++ [nq (na, nc)]) ⟨by rw [hl1]; omega, ?_, fun q hq => ?_⟩ (by rw [hl1]; omega) (by repeat (first | exact trivial | refine ⟨rfl, ?_⟩)) (List.Sublist.refl _)
      · rw [hl1, List.take_add_one, hp, List.map_append, List.map_append, hem]
        congr 1
        rw [hnq]
        simp only [List.map_cons, List.map_nil, Option.toList_some, PRow.phi, hrwsrc]
        rfl
      · rcases List.mem_append.1 hq with hq | hq
        · exact heb q hq
        · rw [List.mem_singleton.1 hq, hnq]
          exact ⟨hpd.1, by simp only; omega, hrwm⟩
  · have hge : es.length = T.ps.length := by have := h3; simp at this; omega
    rw [hge, List.drop_length, List.append_nil]
    rw [hge, List.take_length] at hem
    obtain ⟨y1, hy1⟩ : ∃ y1, y1 = zs.set tn (withPs T es) := ⟨_, rfl⟩
    have hy1l : y1.length = fr := by rw [hy1, List.length_set]; exact hfr.symm
    have hy1b : y1.map BRow.blk = (splitD bl D).modify tn fun B => { B with phis := B.phis.map (turnP k0) } := by
      rw [hy1, List.map_set, hzm]
      refine set_modify hTb ?_
      unfold withPs BRow.blk
      simp only [hem, List.map_map]
      rfl
    have hy1d : ∀ q ∈ y1, q.Bd := fun q hq => by
      rw [hy1] at hq
      rcases List.mem_or_eq_of_mem_set hq with hq | rfl
      · exact hzd q hq
      · exact ⟨hTd.kind, hTd.on, by have := hTd.phis; unfold withPs; simp only; omega, heb, hTd.list, hTd.ins, hTd.to⟩
    obtain ⟨C, hC⟩ : ∃ C, y1[b]? = some C := ⟨_, List.getElem?_eq_getElem (by omega)⟩
    have hCd := hy1d C (List.mem_of_getElem? hC)
    have hCto : toOf (y1.map BRow.blk) b = C.to := by unfold toOf; rw [List.getElem?_map, hC]; rfl
    have hCto2 : C.to = toOf (splitD bl D) b := by
      rw [← hCto, hy1b]
      unfold toOf
      rw [List.getElem?_modify]
      cases (splitD bl D)[b]? with
      | none => rfl
      | some x => by_cases e : tn = b <;> simp [e]
    have hCto3 : C.to = B.to.map (frTo bl.length D b) := by rw [hCto2, toOf_lt (by omega), hBto]
    have hCl : C.to.length = m := by rw [hCto3, List.length_map]; omega
    have hCk : C.to[k]? = some (tn : Int) := by rw [hCto3, List.getElem?_map, ht, Option.map_some, (frTo_eq (by omega) (by omega)).2 ⟨rfl, hDn⟩]
    have hCn : C.to.Nodup := by rw [hCto2]; exact toOf_nodup (splitD_nodup hg hnd) b
    have hCi : C.to.idxOf (tn : Int) = k := by
      have h8 := hCn.idxOf_getElem k (by omega)
      rwa [(List.getElem?_eq_some_iff.1 hCk).2] at h8
    refine g_wd (H' := [Ent.box p3 [.string nm, .int .i64 pa, .int .i64 re, .slice (some ⟨vb, vo, none⟩) fr c] 35, Ent.box p2 [.string ByteArray.empty, .int .i64 0, .int .i64 0, .slice none 0 0] 35, Ent.box p1 [.string nm, .int .i64 pa, .int .i64 re, .slice ba n0 bc] 35] ++ (Ent.vec (some ⟨vb, vo, none⟩) y1.length c 47 6 (y1.flatMap blkC) :: Ent.vec C.pa C.ps.length C.pc 69 2 (C.ps.flatMap phiC) :: lvE C :: tvE C :: (C.ps.map phE ++ (C.xs.map roE ++ (y1.eraseIdx b).map blkE)))) (fun w hw => ?_) ?_
    · refine wd_openB hC ?_
      rw [hy1]
      exact wd_shut (X := [Ent.box p3 [.string nm, .int .i64 pa, .int .i64 re, .slice (some ⟨vb, vo, none⟩) fr c] 35, Ent.box p2 [.string ByteArray.empty, .int .i64 0, .int .i64 0, .slice none 0 0] 35, Ent.box p1 [.string nm, .int .i64 pa, .int .i64 re, .slice ba n0 bc] 35]) hT hfr hge hw
    simp only [List.cons_append, List.nil_append]
    rw [hy1l]
    unfold tvE
    refine g_vec 6 rfl (by omega) fun ub uo hua => ?_
    rw [hua]
    have hlk2 : LtIs k C.to.length := ⟨by omega⟩
    have helk : ElAt C.to k (tn : Int) := ⟨hCk⟩
    have hlb2 : LtIs b fr := ⟨by omega⟩
    have hocb : ∀ (X1 X2 X3 : Ent) (Y : List Ent), OwnCell (X1 :: X2 :: X3 :: Ent.vec (some ⟨vb, vo, none⟩) fr c 47 6 (y1.flatMap blkC) :: Y) vb (vo + b * 6 + 5) (.slice (some ⟨ub, uo, none⟩) C.to.length C.tc) := fun _ _ _ _ => ⟨fun _ _ _ hw => by
      have h5 := hw.vecCell (k := 3) rfl (flat_at blkC_len y1 b C 5 _ hC rfl)
      rw [hua] at h5
      rwa [← Nat.add_assoc] at h5⟩
    repeat (first | refine g_op rfl ?_ | refine g_then ?_ | refine g_nil ?_ | refine g_region ?_ | refine g_seq ?_ | refine g_exit ?_ | refine g_thenExit ?_ | refine g_exitHere ?_ | refine g_storeV ?_ | refine g_build1 rfl rfl fun _ _ => ?_)
    rename_i t118 _ t121 _
    refine g_appendAt 5 rfl rfl (by decide +kernel) (by omega) (by omega) fun na nc => ?_
    simp only [List.set_cons_succ, List.set_cons_zero]
    repeat (first | refine g_op rfl ?_ | refine g_then ?_ | refine g_nil ?_ | refine g_region ?_ | refine g_opS rfl ?_ | refine g_store ?_ | refine g_inBlock ?_ | refine g_add rfl (by omega) (by omega) ?_)
    obtain ⟨C', hC'⟩ : ∃ C' : BRow, C' = { C with to := C.to.set k (fr : Int) } := ⟨_, rfl⟩
    obtain ⟨y2, hy2⟩ : ∃ y2, y2 = y1.set b C' := ⟨_, rfl⟩
    have hy2l : y2.length = fr := by rw [hy2, List.length_set, hy1l]
    have hCC : blkC C' = blkC C := by rw [hC']; simp only [blkC, List.length_set]
    have hy2f : y2.flatMap blkC = y1.flatMap blkC := by rw [hy2]; exact flatMap_set hC hCC
    obtain ⟨NB, hNB⟩ : ∃ NB : BRow, NB = ⟨none, 0, [], none, 0, [], 2, ⟨false, 0⟩, some ⟨t118, 0, none⟩, 1, [(tn : Int)]⟩ := ⟨_, rfl⟩
    have e5 : blkC NB = [.slice none 0 0, .slice none 0 0, .int .i64 2, .bool false, .int .i64 0, .slice (some ⟨t118, 0, none⟩) 1 1] := by rw [hNB]; rfl
    have e6 : blkPs NB = [Ent.vec none 0 0 69 2 [], Ent.vec none 0 0 71 8 [], Ent.vec (some ⟨t118, 0, none⟩) 1 1 3 1 [.int .i64 (tn : Int)]] := by rw [hNB]; rfl
    have e7 : (y2 ++ [NB]).flatMap blkC = y1.flatMap blkC ++ blkC NB := by rw [List.flatMap_append, hy2f]; simp only [List.flatMap_cons, List.flatMap_nil, List.append_nil]
    have e8 : blkPs C' = Ent.vec C.pa C.ps.length C.pc 69 2 (C.ps.flatMap phiC) :: lvE C :: Ent.vec (some ⟨ub, uo, none⟩) C.to.length C.tc 3 1 ((C.to.set k (fr : Int)).map (.int .i64)) :: (C.ps.map phE ++ C.xs.map roE) := by
      rw [hC']
      unfold blkPs lvE
      simp only [List.length_set, hua]
    refine g_wd (H' := Ent.box p3 [.string nm, .int .i64 pa, .int .i64 re, .slice na (y2 ++ [NB]).length nc] 35 :: Ent.box p2 [.string ByteArray.empty, .int .i64 0, .int .i64 0, .slice none 0 0] 35 :: Ent.box p1 [.string nm, .int .i64 pa, .int .i64 re, .slice ba n0 bc] 35 :: fnE na nc (y2 ++ [NB])) (fun w hw => ?_) ?_
    · have hl2 : (y2 ++ [NB]).length = fr + 1 := by rw [List.length_append, hy2l]; rfl
      have h3 : Wd NoS w0 (blkPs C' ++ (blkPs NB ++ (Ent.box p3 [.string nm, .int .i64 pa, .int .i64 re, .slice na (fr + 1) nc] 35 :: Ent.box p2 [.string ByteArray.empty, .int .i64 0, .int .i64 0, .slice none 0 0] 35 :: Ent.box p1 [.string nm, .int .i64 pa, .int .i64 re, .slice ba n0 bc] 35 :: Ent.vec na (fr + 1) nc 47 6 ((y2 ++ [NB]).flatMap blkC) :: (y1.eraseIdx b).map blkE))) w := by
        have h4 := (hw.nilVec 69 2).nilVec 71 8
        refine h4.pick ⟨[Ent.vec (some ⟨t121, 0, none⟩) 1 1 47 6 (blkC NB)], ?_⟩
        rw [e7, e6, e8, e5]
        classical
        refine List.perm_iff_count.2 fun e => ?_
        simp only [List.count_append, List.count_cons, List.count_nil]
        omega
      have h9 := (Wd.join h3).perm (List.perm_middle (l₁ := blkPs NB) (a := Ent.join (blkPs C'))).symm
      refine (Wd.join h9).perm ?_
      have h5 := map_pull blkE (l := y2) (k := b) (x := C') (by rw [hy2]; exact List.getElem?_set_self (by omega))
      rw [show y2.eraseIdx b = y1.eraseIdx b by rw [hy2]; exact List.eraseIdx_set_eq] at h5
      unfold fnE
      rw [hl2, List.map_append]
      classical
      refine List.perm_iff_count.2 fun e => ?_
      have h7 := List.perm_iff_count.1 h5 e
      simp only [List.count_append, List.count_cons, List.count_nil, List.map_cons, List.map_nil, blkE] at h7 ⊢
      omega
    skip
    refine g_next (k + 1, na, nc, y2 ++ [NB]) ⟨hkm, ?_, fun q hq => ?_⟩ (by simp only; omega) (by repeat (first | exact trivial | refine ⟨rfl, ?_⟩)) (List.Sublist.refl _)
    · simp only
      rw [hsucc, ← hsp, ← hP, ← hk0, List.map_append]
      unfold betweenL
      simp only
      congr 1
      · have hCb : (y1.map BRow.blk)[b]? = some C.blk := by rw [List.getElem?_map, hC]; rfl
        rw [hy2, List.map_set, set_modify (f := fun B => { B with to := B.to.set (B.to.idxOf (tn : Int)) ((splitD bl D).length : Int) }) hCb, hy1b]
        · exact modify_swap2 (f := fun B : LBlock => { B with phis := B.phis.map (turnP k0) }) (g := fun B : LBlock => { B with to := B.to.set (B.to.idxOf (tn : Int)) ((splitD bl D).length : Int) }) (fun x => rfl) _ _ _
        · rw [hC']
          unfold BRow.blk
          simp only [hCi, splitD_len, ← hzl, ← hfr]
      · rw [hNB]; rfl
    · rcases List.mem_append.1 hq with hq | hq
      · rw [hy2] at hq
        rcases List.mem_or_eq_of_mem_set hq with hq | rfl
        · exact hy1d q hq
        · rw [hC']
          refine ⟨hCd.kind, hCd.on, hCd.phis, hCd.phi, hCd.list, hCd.ins, by simp only [List.length_set]; exact hCd.to.1, fun t ht => ?_⟩
          rcases List.mem_or_eq_of_mem_set ht with h | rfl
          · exact hCd.to.2 t h
          · exact ⟨by omega, by omega⟩
      · rw [List.mem_singleton.1 hq, hNB]
        refine ⟨show inI (2 : Int) from ⟨by omega, by omega⟩, show inI (0 : Int) from ⟨by omega, by omega⟩, by simp, by simp, by simp, by simp, by simp, fun t ht => ?_⟩
        simp only [List.mem_singleton] at ht
        subst ht
        exact ⟨by omega, by omega⟩
end Go.Proofs.YtbmnkjaelfjlhaaDoor


/- The law GraphSplits: graph.Split returns the unit whose functions the reference has split, or the fault. -/
namespace Go.Proofs.YtbmnkjaelfjlhaaDoor
open Go Go.RowKit
attribute [local irreducible] wpListIn Code.wpIn Exit.then Exit.inBlock bodyPost wpQuiet wpAnyIn wpAnyH bodyPostM oneH
set_option maxHeartbeats 4000000

theorem splitR_c (X : LFunc) (bs0 : Value) (w0 : World) (hbs : SlAt w0 bs0 6 X.blocks BlockV) (hlen : X.blocks.length ≤ 24) (hlim : FnLim X) (R : Nat) (hf : FuncOk R X.blocks) :
    Ret Tryd.prog 18 [.agg #[.string X.name, .int .i64 X.params, .int .i64 X.regs, bs0]] w0 fun u w' => ∃ y : URow, u = .agg #[.string y.name, .int .i64 y.params, .int .i64 y.regs, .slice y.a y.bs.length y.c] ∧ Wd NoS w0 [uE y] w' ∧ (y.fn = splitF X ∧ y.bs.length ≤ 1000 ∧ ∀ b ∈ y.bs, b.Bd) :=
  (refSplit_c X.name X.params X.regs X.blocks bs0 w0 hbs hlen hlim R hf).mono fun u w' ⟨x, h1, h2, h3, h5⟩ => ⟨⟨X.name, X.params, X.regs, x.1, x.2.1, x.2.2⟩, h1, by
    have h6 : Wd NoS w0 (fnE x.1 x.2.1 x.2.2 ++ []) w' := by rw [List.append_nil]; exact h2
    exact h6.join, by unfold URow.fn; simp only [h3]; rfl, by
    have h4 : x.2.2.length = (splitD X.blocks (critAll X.blocks)).length := by rw [← h3, List.length_map]
    have h6 := critTo_len hf.good X.blocks.length 0
    rw [splitD_len] at h4
    unfold critAll at h4
    simp only
    omega, h5⟩
theorem splitF_lim {R : Nat} {X : LFunc} (hl : X.blocks.length ≤ 24) (hlim : FnLim X) (hf : FuncOk R X.blocks) : FnSmall (splitF X) := by
  have hok := critTo_ok hf.good (toOf_nodup fun b B hB => (hf.block b B hB).to) X.blocks.length 0 (Nat.zero_le _)
  have h6 := critTo_len hf.good X.blocks.length 0
  refine ⟨by unfold splitF putB; simp only; rw [splitD_len]; unfold critAll; omega, fun C hC => ?_⟩
  obtain ⟨c, hc⟩ := List.getElem?_of_mem hC
  rcases splitD_mem hc with ⟨B, hcl, hB, rfl⟩ | ⟨j, e, rfl, he, rfl⟩
  · have h7 := hlim.each B (List.mem_of_getElem? hB)
    unfold blkD
    simp only [List.length_map]
    exact ⟨h7.1, h7.2.2.1⟩
  · simp [jumpB]
theorem split_told (u : LUnit) (hsl : slim u) (hch : (checkL u).1 = 0) (g fs : Value) (w0 : World) (hg : SlAt w0 g 3 u.globals GlobalV) (hf : SlAt w0 fs 4 u.funcs FuncV) (hways : CellsAt w0 0 0 waysC) :
    Ret Tryd.prog 14 [.agg #[g, fs]] w0 fun v w' => ∃ x : (Option Addr × Nat × Nat) × (Option Addr × Nat × Nat) × (Int × Int) × Ent, v = .tuple #[.agg #[.slice x.1.1 x.1.2.1 x.1.2.2, .slice x.2.1.1 x.2.1.2.1 x.2.1.2.2], .agg #[.int .i64 x.2.2.1.1, .int .i64 x.2.2.1.2]] ∧ Wd NoS w0 [x.2.2.2] w' ∧
      (inI x.2.2.1.2 ∧ ∀ w, x.2.2.2.ok w → Told (splitU u) w (.slice x.1.1 x.1.2.1 x.1.2.2) (.slice x.2.1.1 x.2.1.2.1 x.2.1.2.2) x.2.2.1.1 x.2.2.1.2) := by
  have hN : ∀ j : Nat, (splitU u).funcs[j]? = (u.funcs[j]?).map splitF := fun j => by unfold splitU; simp only [List.getElem?_map]
  rcases large_or u splitF with ⟨i, X, hF⟩ | hno
  · refine (split_big u (hsl.fine hch) hch i X hF g fs w0 hg hf hways).mono fun v w' ⟨h1, h2⟩ => ⟨((none, 0, 0), (none, 0, 0), (10, (i : Int)), ⟨fps [], fun _ => True⟩), h1, ?_, ?_, fun w _ => .inl ⟨i, splitF X, by rw [hN, hF.at']; rfl, hF.large, fun j Y hj hY => ?_, rfl, rfl, rfl, rfl⟩⟩
    · exact Wd.pack (E := []) (H := []) ⟨h2, by simp, by simp, List.Pairwise.nil⟩ (fun _ => True) fun _ _ => trivial
    · have h3 := (List.getElem?_eq_some_iff.1 hF.at').1
      have h4 := hsl.1
      exact ⟨by simp only; omega, by simp only; omega⟩
    · rw [hN] at hY
      obtain ⟨Z, hZ, rfl⟩ := Option.map_eq_some_iff.1 hY
      exact hF.before j Z hj hZ
  · refine (split_ok u (hsl.fine hch) hch hno g fs w0 hg hf hways).mono fun v w' ⟨x, h1, h2, _⟩ => ⟨((x.1.1, u.globals.length, x.1.2), (x.2.1.1, u.funcs.length, x.2.1.2), (0, 0), unitE (splitU u) (.slice x.1.1 u.globals.length x.1.2) (.slice x.2.1.1 u.funcs.length x.2.1.2) x.2.2), h1, h2, ⟨by simp, by simp⟩, fun w hw => .inr ⟨fun Y hY => ?_, rfl, rfl, hw.1, hw.2⟩⟩
    unfold splitU at hY
    obtain ⟨X, hX, rfl⟩ := List.mem_map.1 hY
    exact hno X hX
theorem graphSplitsLaw_c (u : LUnit) (g fs : Value) (w0 : World) (hg : SlAt w0 g 3 u.globals GlobalV) (hf : SlAt w0 fs 4 u.funcs FuncV) (hways : CellsAt w0 0 0 waysC) :
    RetV Tryd.prog 3 [.agg #[g, fs]] w0 (.bool true) := by
  classical
  have hg0 := hg
  have hf0 := hf
  obtain ⟨ga, gn, gc, gb, go, rfl, hgn, _⟩ := hg
  obtain ⟨fa, fn, fc, fb, fo, rfl, hfn, hfnc, hfnb, hfc, hfa, hfel⟩ := hf
  refine ret_enter Tryd.func3 rfl Tryd.ntmps3 rfl (Wd.nil NoS w0) ?_
  repeat (first | refine g_op rfl ?_ | refine g_then ?_ | refine g_nil ?_ | refine g_region ?_ | refine g_seq ?_ | refine g_box rfl fun _ _ => ?_)
  rename_i p1 _
  refine g_callE (val := fun b : Bool => .bool b) (E := fun _ => []) (φ := fun b => b = false → slim u) rfl (fun w hw => heavyS_c u _ _ w (hf0.keep keeps_func hw.chg) ⟨_, _, _, rfl⟩) fun b hb => ?_
  simp only [List.nil_append]
  cases b
  case true =>
    repeat (first | refine g_then ?_ | refine g_nil ?_ | refine g_region ?_ | refine g_seq ?_ | refine g_opS rfl ?_ | refine g_condT ?_ | refine g_ret ?_ | refine g_thenRet ?_)
    exact g_retV rfl rfl
  have hsl := hb rfl
  have hl := hsl.light
  repeat (first | refine g_op rfl ?_ | refine g_then ?_ | refine g_nil ?_ | refine g_region ?_ | refine g_seq ?_ | refine g_skip ?_ | refine g_condF ?_)
  by_cases hbad : (checkL u).1 ≠ 0
  · refine g_callV rfl (fun w hw => split_bad u hl hbad _ _ w (hg0.keep keeps_global hw.chg) (hf0.keep keeps_func hw.chg) (hways.keep hw.chg)) ?_
    repeat (first | refine g_op rfl ?_ | refine g_then ?_ | refine g_nil ?_ | refine g_region ?_ | refine g_seq ?_ | refine g_alloc rfl fun _ _ => ?_ | refine g_storeAgg ?_)
    refine g_callV rfl (fun w hw => check_c u hl _ _ w (hg0.keep keeps_global hw.chg) (hf0.keep keeps_func hw.chg) (hways.keep hw.chg)) ?_
    repeat (first | refine g_op rfl ?_ | refine g_then ?_ | refine g_nil ?_ | refine g_region ?_ | refine g_seq ?_ | refine g_alloc rfl fun _ _ => ?_ | refine g_storeAgg ?_)
    refine g_cond (fun h1 => ?_) (fun h1 => ?_)
    · repeat (first | refine g_op rfl ?_ | refine g_region ?_ | refine g_seq ?_)
      rw [show (decide ((checkL u).1 = (checkL u).1) && decide ((checkL u).2 = (checkL u).2)) = true by simp]
      repeat (first | refine g_op rfl ?_ | refine g_open ?_)
      refine g_callV rfl (fun w hw => noneE_c w) ?_
      repeat (first | refine g_op rfl ?_ | refine g_then ?_ | refine g_nil ?_ | refine g_opS rfl ?_ | refine g_ret ?_ | refine g_thenRet ?_)
      exact g_retV rfl rfl
    · exact absurd h1 (by simp [hbad])
  have hch : (checkL u).1 = 0 := by simpa using hbad
  have hok := check_zero.1 hch
  refine g_callE (val := fun x : (Option Addr × Nat × Nat) × (Option Addr × Nat × Nat) × (Int × Int) × Ent => .tuple #[.agg #[.slice x.1.1 x.1.2.1 x.1.2.2, .slice x.2.1.1 x.2.1.2.1 x.2.1.2.2], .agg #[.int .i64 x.2.2.1.1, .int .i64 x.2.2.1.2]]) (E := fun x => [x.2.2.2]) (φ := fun x => inI x.2.2.1.2 ∧ ∀ w, x.2.2.2.ok w → Told (splitU u) w (.slice x.1.1 x.1.2.1 x.1.2.2) (.slice x.2.1.1 x.2.1.2.1 x.2.1.2.2) x.2.2.1.1 x.2.2.1.2) rfl (fun w hw => split_told u hsl hch _ _ w (hg0.keep keeps_global hw.chg) (hf0.keep keeps_func hw.chg) (hways.keep hw.chg)) fun x hx => ?_
  obtain ⟨⟨ya, yn, yc⟩, ⟨za, zn, zc⟩, ⟨vc, vk⟩, UE⟩ := x
  obtain ⟨hvk, htold⟩ := hx
  simp only at hvk htold
  simp only [List.cons_append, List.nil_append]
  repeat (first | refine g_op rfl ?_ | refine g_then ?_ | refine g_nil ?_ | refine g_region ?_ | refine g_seq ?_ | refine g_alloc rfl fun _ _ => ?_ | refine g_storeAgg ?_)
  rename_i p3 _ p4 _
  refine g_callV rfl (fun w hw => check_c u hl _ _ w (hg0.keep keeps_global hw.chg) (hf0.keep keeps_func hw.chg) (hways.keep hw.chg)) ?_
  rw [checkL_zero hch]
  repeat (first | refine g_op rfl ?_ | refine g_then ?_ | refine g_nil ?_ | refine g_region ?_ | refine g_seq ?_ | refine g_alloc rfl fun _ _ => ?_ | refine g_storeAgg ?_ | refine g_skip ?_ | refine g_condF ?_)
  rename_i p5 _
  refine g_callE (val := UMem.val) (E := UMem.ents) (φ := fun m => m.unit = u ∧ m.Bd) rfl (fun w hw => unitR_c u (check_glim hch) (check_few hl) (check_lim hl hch) _ _ w (hg0.keep keeps_global hw.chg) (hf0.keep keeps_func hw.chg)) fun m ⟨hmu, hmb⟩ => ?_
  unfold UMem.val
  repeat (first | refine g_op rfl ?_ | refine g_then ?_ | refine g_nil ?_ | refine g_region ?_ | refine g_seq ?_ | refine g_alloc rfl fun _ _ => ?_ | refine g_storeAgg ?_ | refine g_block ?_)
  rename_i p6 _
  refine g_fix (L' := [(7, .int .i64 0), (6, .pointer (some ⟨p6, 0, none⟩)), (4, .pointer (some ⟨p4, 0, none⟩)), (3, .pointer (some ⟨p3, 0, none⟩)), (1, .pointer (some ⟨p1, 0, none⟩))]) (by repeat (first | exact trivial | refine ⟨rfl, ?_⟩)) (List.Sublist.refl _) ?_
  have hmf : m.fs.length = fn := by rw [hfn, ← hmu]; unfold UMem.unit; simp only [List.length_map]
  refine g_wd (H' := Ent.box p6 [.slice m.ga m.gs.length m.gc, .slice m.fa fn m.fc] 25 :: Ent.box p1 [.slice ga gn gc, .slice fa fn fc] 25 :: Ent.box p3 [.slice ya yn yc, .slice za zn zc] 25 :: Ent.box p4 [.int .i64 vc, .int .i64 vk] 28 :: UE :: (Ent.vec m.fa fn m.fc 35 4 (m.fs.flatMap uC) :: gvE m :: (m.gs.map gloE ++ m.fs.map uE))) (fun w hw => ?_) ?_
  · refine hw.pick ⟨[Ent.box p5 [.int .i64 (0, 0).1, .int .i64 (0, 0).2] 28], ?_⟩
    unfold UMem.ents gvE
    rw [hmf]
    classical
    refine List.perm_iff_count.2 fun e => ?_
    simp only [List.count_append, List.count_cons, List.count_nil]
    omega
  skip
  skip
  refine g_loop (fun x : Nat × List URow => x.1 ≤ fn ∧ x.2.length = fn ∧ x.2.map URow.fn = (u.funcs.take x.1).map (splitF) ++ u.funcs.drop x.1 ∧ ∀ y ∈ x.2, (inI y.params ∧ inI y.regs) ∧ (∀ b ∈ y.bs, b.Bd) ∧ y.bs.length ≤ 1000) (fun x => [(7, .int .i64 x.1), (6, .pointer (some ⟨p6, 0, none⟩)), (4, .pointer (some ⟨p4, 0, none⟩)), (3, .pointer (some ⟨p3, 0, none⟩)), (1, .pointer (some ⟨p1, 0, none⟩))]) (fun x => Ent.box p6 [.slice m.ga m.gs.length m.gc, .slice m.fa fn m.fc] 25 :: Ent.box p1 [.slice ga gn gc, .slice fa fn fc] 25 :: Ent.box p3 [.slice ya yn yc, .slice za zn zc] 25 :: Ent.box p4 [.int .i64 vc, .int .i64 vk] 28 :: UE :: (Ent.vec m.fa fn m.fc 35 4 (x.2.flatMap uC) :: gvE m :: (m.gs.map gloE ++ x.2.map uE))) (fun x => fn - x.1) (0, m.fs) ⟨Nat.zero_le _, hmf, ?_, fun y hy => ?_⟩ (g_done (by repeat (first | exact trivial | refine ⟨rfl, ?_⟩)) (List.Sublist.refl _)) fun x ⟨hi, hxl, hxm, hxb⟩ => ?_
  · rw [List.take_zero, List.drop_zero, List.map_nil, List.nil_append, ← hmu]
    rfl
  · have h2 := hmb.func y hy
    refine ⟨h2.1, h2.2, ?_⟩
    have h3 : y.fn ∈ u.funcs := by rw [← hmu]; exact List.mem_map.2 ⟨y, hy, rfl⟩
    have := (check_lim hl hch _ h3).n
    simpa [URow.fn] using this
  obtain ⟨k, ys⟩ := x
  simp only at hi hxl hxm hxb ⊢
  repeat (first | refine g_op rfl ?_ | refine g_then ?_ | refine g_nil ?_ | refine g_region ?_ | refine g_seq ?_)
  refine g_cond (fun h1 => ?_) (fun h1 => ?_)
  · have hlt : k < fn := by simpa using h1
    obtain ⟨X, hX⟩ : ∃ X, u.funcs[k]? = some X := ⟨_, List.getElem?_eq_getElem (by omega)⟩
    have hXm := List.mem_of_getElem? hX
    obtain ⟨y0, hy0⟩ : ∃ y0, ys[k]? = some y0 := ⟨_, List.getElem?_eq_getElem (by omega)⟩
    have had : AddrIs fa fb fo := ⟨hfa (ne_of_get hX)⟩
    have hli : LtIs k fn := ⟨hlt⟩
    obtain ⟨_, hcs, bv, rfl, hpi, hri, hbv⟩ := hfel k X hX
    have hci : CellsIs w0 fb (fo + k * 4) _ := ⟨hcs⟩
    have hbv0 := hbv
    obtain ⟨ba, bn, bc, _, _, rfl, hbn, _⟩ := hbv
    obtain ⟨R, hXR, hR, hFO⟩ := check_func hch hX
    have hlim := check_lim hl hch X hXm
    have hsm := (check_small hok hXm).2.2.1
    refine g_vec 5 rfl (by omega) fun vb vo hva => ?_
    rw [hva]
    repeat (first | refine g_then ?_ | refine g_seq ?_ | refine g_block ?_ | refine g_skip ?_)
    refine g_drawX [Ent.box p6 [.slice m.ga m.gs.length m.gc, .slice (some ⟨vb, vo, none⟩) fn m.fc] 25, Ent.box p1 [.slice ga gn gc, .slice fa fn fc] 25] (fun y : URow => y.fn = splitF X ∧ y.bs.length ≤ 1000 ∧ ∀ b ∈ y.bs, b.Bd) (fun _ => [(7, .int .i64 k), (6, .pointer (some ⟨p6, 0, none⟩)), (4, .pointer (some ⟨p4, 0, none⟩)), (3, .pointer (some ⟨p3, 0, none⟩)), (1, .pointer (some ⟨p1, 0, none⟩))]) (fun y => uE y :: Ent.box p6 [.slice m.ga m.gs.length m.gc, .slice (some ⟨vb, vo, none⟩) fn m.fc] 25 :: Ent.box p1 [.slice ga gn gc, .slice fa fn fc] 25 :: Ent.box p3 [.slice ya yn yc, .slice za zn zc] 25 :: Ent.box p4 [.int .i64 vc, .int .i64 vk] 28 :: UE :: (Ent.vec (some ⟨vb, vo, none⟩) fn m.fc 35 4 ((ys.set k y).flatMap uC) :: gvE m :: (m.gs.map gloE ++ ys.map uE))) mixed (by first | exact .cons_cons _ (.cons_cons _ (List.nil_sublist _)) | exact .cons _ (.cons_cons _ (.cons_cons _ (List.nil_sublist _)))) ?_ fun y hy => ?_
    · skip
      refine h_take 0 rfl (by decide +kernel) (by first | exact .cons_cons _ (.cons_cons _ (List.nil_sublist _)) | exact .cons _ (.cons_cons _ (.cons_cons _ (List.nil_sublist _)))) ?_
      refine h_take 1 rfl (by decide +kernel) (by first | exact .cons_cons _ (.cons_cons _ (List.nil_sublist _)) | exact .cons _ (.cons_cons _ (.cons_cons _ (List.nil_sublist _)))) ?_
      refine h_take 2 rfl (by decide +kernel) (by first | exact .cons_cons _ (.cons_cons _ (List.nil_sublist _)) | exact .cons _ (.cons_cons _ (.cons_cons _ (List.nil_sublist _)))) ?_
      refine h_take 3 rfl (by decide +kernel) (by first | exact .cons_cons _ (.cons_cons _ (List.nil_sublist _)) | exact .cons _ (.cons_cons _ (.cons_cons _ (List.nil_sublist _)))) ?_
      refine h_take 4 rfl (by decide +kernel) (by first | exact .cons_cons _ (.cons_cons _ (List.nil_sublist _)) | exact .cons _ (.cons_cons _ (.cons_cons _ (List.nil_sublist _)))) ?_
      refine h_take 5 rfl (by decide +kernel) (by first | exact .cons_cons _ (.cons_cons _ (List.nil_sublist _)) | exact .cons _ (.cons_cons _ (.cons_cons _ (List.nil_sublist _)))) ?_
      refine h_take 6 rfl (by decide +kernel) (by first | exact .cons_cons _ (.cons_cons _ (List.nil_sublist _)) | exact .cons _ (.cons_cons _ (.cons_cons _ (List.nil_sublist _)))) ?_
      refine h_take 7 rfl (by decide +kernel) (by first | exact .cons_cons _ (.cons_cons _ (List.nil_sublist _)) | exact .cons _ (.cons_cons _ (.cons_cons _ (List.nil_sublist _)))) ?_
      refine h_callE 8 (val := fun y : URow => .agg #[.string y.name, .int .i64 y.params, .int .i64 y.regs, .slice y.a y.bs.length y.c]) (E := fun y => [uE y]) (φ := fun y => y.fn = splitF X ∧ y.bs.length ≤ 1000 ∧ ∀ b ∈ y.bs, b.Bd) rfl (by decide +kernel) (by first | exact .cons_cons _ (.cons_cons _ (List.nil_sublist _)) | exact .cons _ (.cons_cons _ (.cons_cons _ (List.nil_sublist _)))) (fun w hw => splitR_c X _ w (hbv0.keep keeps_block hw.chg) (hsl.2 X hXm).1 hlim R hFO) fun y hy => ?_
      simp only [List.cons_append, List.nil_append]
      refine h_take 9 rfl (by decide +kernel) (by first | exact .cons_cons _ (.cons_cons _ (List.nil_sublist _)) | exact .cons _ (.cons_cons _ (.cons_cons _ (List.nil_sublist _)))) ?_
      refine h_one 10 (by decide +kernel) ?_
      refine o_storeVA 10 6 (j := k * 4) rfl rfl (by rw [flat_len uC_len]; omega) (by first | exact .cons_cons _ (.cons_cons _ (List.nil_sublist _)) | exact .cons _ (.cons_cons _ (.cons_cons _ (List.nil_sublist _)))) ?_
      rw [show [Value.string y.name, .int .i64 y.params, .int .i64 y.regs, .slice y.a y.bs.length y.c] = uC y from rfl, flat_put uC_len (by omega)]
      simp only [List.set_cons_zero, List.set_cons_succ]
      refine h_end (by decide +kernel) ?_
      exact g_mem y hy (by repeat (first | exact trivial | refine ⟨rfl, ?_⟩)) (List.Sublist.refl _)
    · obtain ⟨hy1, hy2, hy3⟩ := hy
      refine g_wd (H' := Ent.box p6 [.slice m.ga m.gs.length m.gc, .slice (some ⟨vb, vo, none⟩) fn m.fc] 25 :: Ent.box p1 [.slice ga gn gc, .slice fa fn fc] 25 :: Ent.box p3 [.slice ya yn yc, .slice za zn zc] 25 :: Ent.box p4 [.int .i64 vc, .int .i64 vk] 28 :: UE :: (Ent.vec (some ⟨vb, vo, none⟩) fn m.fc 35 4 ((ys.set k y).flatMap uC) :: gvE m :: (m.gs.map gloE ++ (ys.set k y).map uE))) (fun w hw => ?_) ?_
      · refine hw.pick ⟨[uE y0], ?_⟩
        have h2 := map_pull uE hy0
        have h3 := map_pull uE (l := ys.set k y) (k := k) (x := y) (List.getElem?_set_self (by omega))
        rw [List.eraseIdx_set_eq] at h3
        classical
        refine List.perm_iff_count.2 fun e => ?_
        have h4 := List.perm_iff_count.1 h2 e
        have h5 := List.perm_iff_count.1 h3 e
        simp only [List.count_append, List.count_cons, List.count_nil] at h4 h5 ⊢
        omega
      repeat (first | refine g_op rfl ?_ | refine g_then ?_ | refine g_nil ?_ | refine g_region ?_ | refine g_opS rfl ?_ | refine g_inBlock ?_ | refine g_add rfl (by omega) (by omega) ?_)
      refine g_next (k + 1, ys.set k y) ⟨hlt, by simp only; rw [List.length_set]; exact hxl, ?_, fun z hz => ?_⟩ (by simp only; omega) ?_ ?_
      · simp only
        rw [List.map_set, hxm, hy1, set_mid (by rw [List.length_map, List.length_take]; omega) (by omega), List.take_add_one, hX, List.map_append]
        rfl
      · rcases List.mem_or_eq_of_mem_set hz with hz | rfl
        · exact hxb z hz
        · have h6 : z.params = X.params ∧ z.regs = X.regs := ⟨congrArg LFunc.params hy1, congrArg LFunc.regs hy1⟩
          rw [h6.1, h6.2]
          exact ⟨⟨hpi, hri⟩, hy3, by omega⟩
      · exact (by repeat (first | exact trivial | refine ⟨rfl, ?_⟩))
      · exact List.Sublist.refl _
  · obtain rfl : fn = k := by have := h1; simp at this; omega
    have hfin : (UMem.unit { m with fs := ys }).funcs = (splitU u).funcs := by
      unfold UMem.unit splitU
      simp only
      rw [hxm, hfn, List.take_length, List.drop_length, List.append_nil]
    have hfing : (UMem.unit { m with fs := ys }).globals = (splitU u).globals := by
      unfold splitU
      simp only
      rw [← hmu]
      rfl
    have hglen : m.gs.length = u.globals.length := by rw [← hmu]; unfold UMem.unit; simp only [List.length_map]
    have hms : ∀ w, Wd NoS w0 (Ent.box p6 [.slice m.ga m.gs.length m.gc, .slice m.fa fn m.fc] 25 :: Ent.box p1 [.slice ga gn gc, .slice fa fn fc] 25 :: Ent.box p3 [.slice ya yn yc, .slice za zn zc] 25 :: Ent.box p4 [.int .i64 vc, .int .i64 vk] 28 :: UE :: (Ent.vec m.fa fn m.fc 35 4 (ys.flatMap uC) :: gvE m :: (m.gs.map gloE ++ ys.map uE))) w → SlAt w (.slice m.ga m.gs.length m.gc) 3 (splitU u).globals GlobalV ∧ SlAt w (.slice m.fa fn m.fc) 4 (splitU u).funcs FuncV := fun w hw => by
      have h2 : Wd NoS w0 ((UMem.ents { m with fs := ys }) ++ []) w := by
        rw [List.append_nil]
        unfold UMem.ents
        simp only
        rw [hxl]
        exact hw.sub (.cons _ (.cons _ (.cons _ (.cons _ (.cons _ (List.Sublist.refl _))))))
      have h3 := UMem.sl (m := { m with fs := ys }) ⟨hmb.glob, fun y hy => ⟨(hxb y hy).1, (hxb y hy).2.1⟩⟩ ⟨by have := hok.globs; simp only; omega, by have := hl.1; simp only; omega, fun y hy => (hxb y hy).2.2⟩ h2
      rw [hfin, hfing] at h3
      simp only [hxl] at h3
      exact h3
    repeat (first | refine g_op rfl ?_ | refine g_then ?_ | refine g_region ?_ | refine g_seq ?_ | refine g_exit ?_ | refine g_thenExit ?_ | refine g_exitHere ?_)
    refine g_callV rfl (fun w hw => given_c _ _ _ _ vc vk _ _ (splitU u) w (hms w hw).1 (hms w hw).2 (fun X hX => ?_) hvk (htold w (hw.get (k := 4) rfl))) ?_
    · unfold splitU at hX
      obtain ⟨Z, hZ, rfl⟩ := List.mem_map.1 hX
      obtain ⟨j, hj⟩ := List.getElem?_of_mem hZ
      obtain ⟨R, _, _, hFO⟩ := check_func hch hj
      exact splitF_lim (hsl.2 Z hZ).1 (check_lim hl hch Z hZ) hFO
    repeat (first | refine g_op rfl ?_ | refine g_then ?_ | refine g_nil ?_ | refine g_ret ?_)
    exact g_retV rfl rfl
end Go.Proofs.YtbmnkjaelfjlhaaDoor

