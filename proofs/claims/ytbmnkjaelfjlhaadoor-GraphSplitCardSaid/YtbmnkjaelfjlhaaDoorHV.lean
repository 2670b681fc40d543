/- Texts joined: Betw SplitP SplitQ SplitR. -/
import Derived.Test.YtbmnkjaelfjlhaaDoorGF
import Derived.Test.YtbmnkjaelfjlhaaDoorGJ
import Derived.Test.YtbmnkjaelfjlhaaDoorGX
import Derived.Test.YtbmnkjaelfjlhaaDoorHA
import Derived.Test.YtbmnkjaelfjlhaaDoorHI
import Derived.Test.YtbmnkjaelfjlhaaDoorHJ
/- graph.Between: what it does. -/
namespace Go.Proofs.YtbmnkjaelfjlhaaDoor
open Go Go.RowKit
attribute [local irreducible] wpListIn Code.wpIn Exit.then Exit.inBlock bodyPost wpQuiet wpAnyIn wpAnyH
set_option maxHeartbeats 8000000

theorem idxOfI_le {x : Int} : ∀ {l : List Int} {i : Nat}, l[i]? = some x → l.idxOf x ≤ i
  | [], i, h => by simp at h
  | y :: l, 0, h => by
    simp only [List.getElem?_cons_zero, Option.some.injEq] at h
    subst h
    simp
  | y :: l, i + 1, h => by
    rw [List.idxOf_cons]
    cases (y == x)
    · have := idxOfI_le (l := l) (i := i) (by simpa using h)
      simpa using this
    · simp
section
variable {P : Program} {N : Nat} {ds : List Deferred} {S : Nat → Prop} {w0 : World} {L : List (Nat × Value)} {H : List Ent} {x : Operand}
instance {p : Addr} [hx : Ev L x (.pointer (some p))] : RunsC P N ds S w0 L H (.nilCheck x) (.pointer (some p)) :=
  ⟨fun _ h => (by cases h), fun _ _ h => (by cases h), fun _ _ _ _ _ a w hF _ => by simp [execOp, hx.eq _ _ _ hF]⟩
end
theorem indexInt_c (v : Value) (l : List Int) (x : Int) (w0 : World) (hx : x ∈ l) (hv : SlAt w0 v 1 l IntV) : RetV Tryd.prog 111 [v, .int .i64 x] w0 (.int .i64 (l.idxOf x : Nat)) := by
  obtain ⟨a, n, c, b, o, rfl, hn, hnc, hnb, hc, ha, hel⟩ := hv
  have hil := List.idxOf_lt_length_of_mem hx
  refine ret_enter Tryd.func111 rfl Tryd.ntmps111 rfl (Wd.nil NoS w0) ?_
  repeat (first | refine g_op rfl ?_ | refine g_then ?_ | refine g_nil ?_ | refine g_region ?_ | refine g_seq ?_ | refine g_block ?_)
  refine g_loop (fun (i : Nat) => i ≤ l.idxOf x) (fun i => [(8, .int .i64 i), (6, .slice a n c), (7, .int .i64 n), (0, .slice a n c), (1, .int .i64 x)]) (fun _ => []) (fun i => n - i) 0 (Nat.zero_le _) (g_done (by repeat (first | exact trivial | refine ⟨rfl, ?_⟩)) (by simp)) fun i hi => ?_
  repeat (first | refine g_op rfl ?_ | refine g_then ?_ | refine g_nil ?_ | refine g_region ?_ | refine g_seq ?_)
  refine g_cond (fun h1 => ?_) (fun h1 => ?_)
  · have hlt : i < n := by simpa using h1
    obtain ⟨t, ht⟩ : ∃ t, l[i]? = some t := ⟨_, List.getElem?_eq_getElem (by omega)⟩
    have had : AddrIs a b o := ⟨ha (ne_of_get ht)⟩
    have hli : LtIs i n := ⟨hlt⟩
    obtain ⟨cs, hcs, rfl, _⟩ := hel i _ ht
    have hci : CellsIs w0 b (o + i * 1) _ := ⟨hcs⟩
    repeat (first | refine g_op rfl ?_ | refine g_then ?_ | refine g_nil ?_ | refine g_region ?_ | refine g_seq ?_ | refine g_block ?_ | refine g_skip ?_)
    refine g_cond (fun h2 => ?_) (fun h2 => ?_)
    · have htx : x = t := by simpa using h2
      subst htx
      have : l.idxOf x = i := by
        have h4 := idxOfI_le ht
        omega
      repeat (first | refine g_op rfl ?_ | refine g_then ?_ | refine g_nil ?_ | refine g_region ?_ | refine g_seq ?_ | refine g_ret ?_ | refine g_thenRet ?_ | refine g_blockRet ?_)
      exact g_retV rfl (by rw [this])
    · repeat (first | refine g_then ?_ | refine g_nil ?_ | refine g_region ?_ | refine g_opS rfl ?_ | refine g_inBlock ?_ | refine g_skip ?_ | refine g_add rfl (by omega) (by omega) ?_)
      refine g_next (i + 1) ?_ (by omega) (by repeat (first | exact trivial | refine ⟨rfl, ?_⟩)) (by simp)
      refine Nat.lt_of_le_of_ne hi fun e => ?_
      subst e
      have h3 := List.getElem_idxOf hil
      have h4 := (List.getElem?_eq_some_iff.1 ht).2
      rw [h3] at h4
      simp [h4] at h2
  · exact absurd h1 (by simp; omega)
/-- a new block on the way from one block to another one -/
def turnP (k : Nat) (p : LPhi) : LPhi := ⟨p.dst, p.src.eraseIdx k ++ [p.src.getD k ⟨false, 0⟩]⟩
def betweenL (bl : List LBlock) (fr to k : Nat) : List LBlock :=
  let b1 := bl.modify fr fun b => { b with to := b.to.set (b.to.idxOf (to : Int)) bl.length }
  (b1.modify to fun b => { b with phis := b.phis.map (turnP k) }) ++ [⟨[], [], 2, ⟨false, 0⟩, [(to : Int)]⟩]
theorem modify_mid {α : Type} (f : α → α) (b : α) (l2 : List α) : ∀ l1 : List α, (l1 ++ b :: l2).modify l1.length f = l1 ++ f b :: l2
  | [] => rfl
  | x :: l1 => by
    rw [List.length_cons, List.cons_append, List.modify_succ_cons, modify_mid f b l2 l1]
    rfl
def toE (b : BRow) : Ent := Ent.vec b.ta b.to.length b.tc 3 1 (b.to.map (.int .i64))
def rbE (b : BRow) : List Ent := Ent.vec b.la b.xs.length b.lc 71 8 (b.xs.flatMap rowC) :: Ent.vec b.pa b.ps.length b.pc 69 2 (b.ps.flatMap phiC) :: (b.ps.map phE ++ b.xs.map roE)
theorem blkPs_to (b : BRow) : (blkPs b).Perm (toE b :: rbE b) := by
  unfold blkPs toE rbE
  exact ((List.Perm.swap _ _ _).trans ((List.Perm.swap _ _ _).cons _)).trans (((List.Perm.swap _ _ _)).trans ((List.Perm.refl _)))
def phV (b : BRow) : Ent := Ent.vec b.pa b.ps.length b.pc 69 2 (b.ps.flatMap phiC)
def rpE (b : BRow) : List Ent := Ent.vec b.la b.xs.length b.lc 71 8 (b.xs.flatMap rowC) :: toE b :: b.xs.map roE
theorem blkPs_ph (b : BRow) : (blkPs b).Perm (phV b :: (b.ps.map phE ++ rpE b)) := by
  unfold blkPs phV rpE toE
  exact List.Perm.cons _ (List.perm_append_comm (l₁ := [_, _]) (l₂ := b.ps.map phE ++ b.xs.map roE) |>.trans (by
    rw [List.append_assoc]
    exact List.Perm.append_left _ (List.perm_append_comm (l₁ := b.xs.map roE) (l₂ := [_, _]))))
theorem pull_blk (X Y : Ent) (l1 l2 : List BRow) (b : BRow) : (X :: Y :: (l1 ++ b :: l2).map blkE).Perm (blkE b :: (X :: Y :: (l1 ++ l2).map blkE)) := by
  rw [List.map_append, List.map_append, List.map_cons]
  have h := (List.perm_middle (l₁ := l1.map blkE) (l₂ := l2.map blkE) (a := blkE b))
  exact (((h.cons Y).cons X).trans ((List.Perm.swap _ _ _).cons X)).trans (List.Perm.swap _ _ _)
theorem between_c (nm pa re : Value) (p : Nat) (a : Option Addr) (c : Nat) (bs : List BRow) (fr to : Nat) (B T : BRow) (row : List Int) (w0 : World)
    (hW : Wd (fps (Ent.box p [nm, pa, re, .slice a bs.length c] 35 :: fnE a c bs)) w0 (Ent.box p [nm, pa, re, .slice a bs.length c] 35 :: fnE a c bs) w0)
    (hlen : bs.length ≤ 100) (hbd : ∀ b ∈ bs, b.Bd) (hok : GoodB (bs.map BRow.blk)) (hB : bs[fr]? = some B) (hT : bs[to]? = some T) (hin : (to : Int) ∈ B.to) (hrow : (aheadL (bs.map BRow.blk))[to]? = some row) (hfr : (fr : Int) ∈ row) (hph : ∀ q ∈ T.ps, q.l.length = row.length) :
    Ret Tryd.prog 75 [.pointer (some ⟨p, 0, none⟩), .int .i64 fr, .int .i64 to] w0 fun u w' => ∃ x : Option Addr × Nat × List BRow, u = .tuple #[] ∧ Wd (fps (Ent.box p [nm, pa, re, .slice a bs.length c] 35 :: fnE a c bs)) w0 (Ent.box p [nm, pa, re, .slice x.1 x.2.2.length x.2.1] 35 :: fnE x.1 x.2.1 x.2.2) w' ∧
      (x.2.2.map BRow.blk = betweenL (bs.map BRow.blk) fr to (row.idxOf (fr : Int)) ∧ (∀ b ∈ x.2.2, b.Bd) ∧ x.2.2.length = bs.length + 1) := by
  refine ret_enter Tryd.func75 rfl Tryd.ntmps75 rfl hW ?_
  generalize hS : fps (Ent.box p [nm, pa, re, .slice a bs.length c] 35 :: fnE a c bs) = SS
  repeat (first | refine g_op rfl ?_ | refine g_then ?_ | refine g_nil ?_ | refine g_region ?_ | refine g_seq ?_)
  have hrd : ∀ w, Wd SS w0 (Ent.box p [nm, pa, re, .slice a bs.length c] 35 :: fnE a c bs) w → SlAt w (.slice a bs.length c) 6 (bs.map BRow.blk) BlockV := fun w hw => by
    refine Wd.blocks (H := []) (hw.sub (List.Sublist.cons _ ?_)) (by omega) hbd
    rw [List.append_nil]
    exact List.Sublist.refl _
  refine g_callE (val := fun x : (Option Addr × Nat × Nat) × (Nat → Prop) => .slice x.1.1 x.1.2.1 x.1.2.2) (E := fun x => [⟨x.2, fun w => SlAt w (.slice x.1.1 x.1.2.1 x.1.2.2) 1 (aheadL (bs.map BRow.blk)) RowV⟩]) (φ := fun _ => True) rfl (fun w hw => graphAhead_c nm pa re (bs.map BRow.blk) (.slice a bs.length c) w (hrd w hw) (by rw [List.length_map]; exact hlen) hok) fun x _ => ?_
  obtain ⟨⟨aa, an, ac⟩, af⟩ := x
  simp only [List.cons_append, List.nil_append]
  repeat (refine g_op rfl ?_)
  refine g_permH (List.perm_append_comm (l₁ := [(⟨af, fun w => SlAt w (.slice aa an ac) 1 (aheadL (bs.map BRow.blk)) RowV⟩ : Ent)])) ?_
  refine g_holdK fun w1 hw1 => ?_
  rw [hS]
  have hahk : SlAt (killW SS w1) (.slice aa an ac) 1 (aheadL (bs.map BRow.blk)) RowV := by
    have := hw1.beside (e := (⟨af, fun w => SlAt w (.slice aa an ac) 1 (aheadL (bs.map BRow.blk)) RowV⟩ : Ent)) (by simp)
    rwa [hS] at this
  have back : ∀ {E : List Ent} {w : World}, Wd SS (killW SS w1) E w → Wd SS w0 E w := fun hw => by
    have h1 := hw.unkill
    rw [← hS] at h1
    have h2 := hw1.comp h1
    exact h2.sub (List.sublist_append_left _ _)
  have hkk : ∀ {E : List Ent} {w : World}, Wd SS (killW SS w1) E w → ∀ p v, (killW SS w1).cell? p = some v → w.cell? p = some v := fun hw => hw.killKeep
  have hold : ∀ {b o : Nat} {v : Value}, CellsAt (killW SS w1) b o [v] → OldIs SS b := fun hc => killOldIs hc (by simp)
  generalize killW SS w1 = wk at *
  obtain ⟨hanl, hanc, _, ab, ao, haa, hahel⟩ := hahk.at
  have hal : (aheadL (bs.map BRow.blk)).length = bs.length := by unfold aheadL; rw [aheadTo_length, List.length_map]
  rw [hal] at hanl
  subst hanl
  have hto : to < bs.length := (List.getElem?_eq_some_iff.1 hT).1
  have hfrl : fr < bs.length := (List.getElem?_eq_some_iff.1 hB).1
  obtain ⟨cs, hcs, rv, rfl, hrv⟩ := hahel to row hrow
  have had : AddrIs aa ab ao := ⟨haa (ne_of_get hrow)⟩
  have hlt : LtIs to bs.length := ⟨hto⟩
  have hlf : LtIs fr bs.length := ⟨hfrl⟩
  have hci : CellsIs wk ab (ao + to * 1) _ := ⟨hcs⟩
  have hoi := hold hcs
  repeat (refine g_op rfl ?_)
  refine g_callV rfl (fun w hw => indexInt_c rv row fr w hfr (SlAt.mono (V := IntV) (w := wk) (w' := w) (fun _ _ h => h) (hkk hw) hrv)) ?_
  unfold fnE
  refine g_vec 1 rfl (by omega) fun vb vo hva => ?_
  subst hva
  repeat (first | refine g_op rfl ?_ | refine g_then ?_ | refine g_nil ?_ | refine g_region ?_ | refine g_seq ?_)
  obtain ⟨l1, l2, rfl, hl1⟩ : ∃ l1 l2, bs = l1 ++ B :: l2 ∧ l1.length = fr := ⟨bs.take fr, bs.drop (fr + 1), by
    rw [← (List.getElem?_eq_some_iff.1 hB).2, List.getElem_cons_drop, List.take_append_drop], by rw [List.length_take]; omega⟩
  generalize hnL : (l1 ++ B :: l2).length = n at *
  have hBd := hbd B (by simp)
  refine g_permH (pull_blk _ _ _ _ _) ?_
  refine g_unjoin ?_
  refine g_permH (H1 := toE B :: Ent.box p [nm, pa, re, .slice (some ⟨vb, vo, none⟩) n c] 35 :: Ent.vec (some ⟨vb, vo, none⟩) n c 47 6 ((l1 ++ B :: l2).flatMap blkC) :: (rbE B ++ (l1 ++ l2).map blkE)) ?_ ?_
  · refine ((blkPs_to B).append_right _).trans (List.Perm.cons _ ?_)
    exact (List.perm_append_comm (l₁ := rbE B)).trans ((List.perm_append_comm (l₁ := (l1 ++ l2).map blkE)).cons _ |>.cons _)
  unfold toE
  refine g_vec 0 rfl (List.length_pos_of_mem hin) fun tb tz hta => ?_
  have hmemB : (l1 ++ B :: l2)[fr]? = some B := hB
  have hoc : OwnCell (Ent.box p [nm, pa, re, .slice (some ⟨vb, vo, none⟩) n c] 35 :: Ent.vec (some ⟨vb, vo, none⟩) n c 47 6 ((l1 ++ B :: l2).flatMap blkC) :: (rbE B ++ (l1 ++ l2).map blkE)) vb (vo + fr * 6 + 5) (.slice B.ta B.to.length B.tc) := ⟨fun _ _ _ hw => by
    have h5 := hw.vecCell (k := 1) rfl (flat_at blkC_len (l1 ++ B :: l2) fr B 5 _ hmemB rfl)
    rwa [← Nat.add_assoc] at h5⟩
  rw [hta] at hoc ⊢
  have hix := List.idxOf_lt_length_of_mem hin
  have hli : LtIs (B.to.idxOf (to : Int)) B.to.length := ⟨hix⟩
  have hel : ElAt B.to (B.to.idxOf (to : Int)) (to : Int) := ⟨by rw [List.getElem?_eq_getElem hix, List.getElem_idxOf hix]⟩
  refine g_drawH (Ent.box p [nm, pa, re, .slice (some ⟨vb, vo, none⟩) n c] 35 :: Ent.vec (some ⟨vb, vo, none⟩) n c 47 6 ((l1 ++ B :: l2).flatMap blkC) :: (rbE B ++ (l1 ++ l2).map blkE)) mixed (List.Sublist.cons _ (List.Sublist.refl _)) ?_
  refine h_take 0 rfl (by decide +kernel) (List.Sublist.cons _ (List.Sublist.refl _)) ?_
  refine h_take 1 rfl (by decide +kernel) (List.Sublist.cons _ (List.Sublist.refl _)) ?_
  refine h_take 2 rfl (by decide +kernel) (List.Sublist.cons _ (List.Sublist.refl _)) ?_
  refine h_take 3 rfl (by decide +kernel) (List.Sublist.cons _ (List.Sublist.refl _)) ?_
  refine h_take 4 rfl (by decide +kernel) (List.Sublist.cons _ (List.Sublist.refl _)) ?_
  refine h_take 5 rfl (by decide +kernel) (List.Sublist.cons _ (List.Sublist.refl _)) ?_
  refine h_take 6 rfl (by decide +kernel) (List.Sublist.cons _ (List.Sublist.refl _)) ?_
  refine h_take 7 rfl (by decide +kernel) (List.Sublist.cons _ (List.Sublist.refl _)) ?_
  refine h_take 8 rfl (by decide +kernel) (List.Sublist.cons _ (List.Sublist.refl _)) ?_
  refine h_take 9 rfl (by decide +kernel) (List.Sublist.cons _ (List.Sublist.refl _)) ?_
  refine h_take 10 rfl (by decide +kernel) (List.Sublist.cons _ (List.Sublist.refl _)) ?_
  refine h_take 12 rfl (by decide +kernel) (List.Sublist.cons _ (List.Sublist.refl _)) ?_
  refine h_callV 11 rfl (by decide +kernel) (List.Sublist.cons _ (List.Sublist.refl _)) (fun w hw => indexInt_c _ B.to to w hin ?_) ?_
  · refine hw.slAt (k := 0) rfl rfl (by have := hBd.to.1; omega) fun i x hx => ⟨[.int .i64 x], fun j v hj => ?_, rfl, hBd.to.2 x (List.mem_of_getElem? hx)⟩
    match j, hj with
    | 0, hj => simpa [hx] using hj
  refine h_take 13 rfl (by decide +kernel) (List.Sublist.cons _ (List.Sublist.refl _)) ?_
  refine h_storeV 14 (by decide +kernel) (by decide +kernel) (List.Sublist.cons _ (List.Sublist.refl _)) ?_
  obtain ⟨B', hB'⟩ : ∃ B' : BRow, B' = { B with to := B.to.set (B.to.idxOf (to : Int)) (n : Int) } := ⟨_, rfl⟩
  have hcC : blkC B' = blkC B := by rw [hB']; simp only [blkC, List.length_set]
  refine g_eqH (H1 := toE B' :: Ent.box p [nm, pa, re, .slice (some ⟨vb, vo, none⟩) n c] 35 :: Ent.vec (some ⟨vb, vo, none⟩) n c 47 6 ((l1 ++ B' :: l2).flatMap blkC) :: (rbE B' ++ (l1 ++ l2).map blkE)) ?_ ?_
  · have e1 : toE B' = Ent.vec (some ⟨tb, tz, none⟩) B.to.length B.tc 3 1 ((B.to.set (B.to.idxOf (to : Int)) (n : Int)).map (.int .i64)) := by
      rw [hB']; simp only [toE, List.length_set, hta]
    have e2 : rbE B' = rbE B := by rw [hB']; rfl
    have e3 : (l1 ++ B' :: l2).flatMap blkC = (l1 ++ B :: l2).flatMap blkC := by simp only [List.flatMap_append, List.flatMap_cons, hcC]
    rw [e1, e2, e3]
  refine g_permH (H1 := blkPs B' ++ (Ent.box p [nm, pa, re, .slice (some ⟨vb, vo, none⟩) n c] 35 :: Ent.vec (some ⟨vb, vo, none⟩) n c 47 6 ((l1 ++ B' :: l2).flatMap blkC) :: (l1 ++ l2).map blkE)) ?_ ?_
  · refine List.Perm.symm (((blkPs_to B').append_right _).trans (List.Perm.cons _ ?_))
    exact (List.perm_append_comm (l₁ := rbE B')).trans ((List.perm_append_comm (l₁ := (l1 ++ l2).map blkE)).cons _ |>.cons _)
  refine g_joinH ?_
  refine g_permH (H1 := Ent.box p [nm, pa, re, .slice (some ⟨vb, vo, none⟩) n c] 35 :: Ent.vec (some ⟨vb, vo, none⟩) n c 47 6 ((l1 ++ B' :: l2).flatMap blkC) :: (l1 ++ B' :: l2).map blkE) (pull_blk _ _ _ _ _).symm ?_
  have hblk1 : (l1 ++ B' :: l2).map BRow.blk = ((l1 ++ B :: l2).map BRow.blk).modify fr fun b => { b with to := b.to.set (b.to.idxOf (to : Int)) (n : Int) } := by
    rw [List.map_append, List.map_append, List.map_cons, List.map_cons]
    have e : fr = (l1.map BRow.blk).length := by rw [List.length_map, hl1]
    rw [e, modify_mid, hB']
    rfl
  have hl1n : (l1 ++ B' :: l2).length = n := by rw [← hnL]; simp
  have hbd1 : ∀ b ∈ l1 ++ B' :: l2, b.Bd := fun b hb => by
    rcases List.mem_append.1 hb with h | h
    · exact hbd b (List.mem_append_left _ h)
    rcases List.mem_cons.1 h with rfl | h
    · rw [hB']
      refine ⟨hBd.kind, hBd.on, hBd.phis, hBd.phi, hBd.list, hBd.ins, by rw [List.length_set]; exact hBd.to.1, fun t ht => ?_⟩
      rcases List.mem_or_eq_of_mem_set ht with h | rfl
      · exact hBd.to.2 t h
      · exact ⟨by omega, by omega⟩
    · exact hbd b (by simp [h])
  obtain ⟨T1, hT1, hT1p⟩ : ∃ T1, (l1 ++ B' :: l2)[to]? = some T1 ∧ T1.ps = T.ps := by
    by_cases e : to = fr
    · subst e
      rw [hB] at hT
      obtain rfl := Option.some.inj hT
      exact ⟨B', by rw [List.getElem?_append_right (by omega), hl1, Nat.sub_self]; rfl, by rw [hB']⟩
    · refine ⟨T, ?_, rfl⟩
      rw [← hT]
      by_cases h : to < l1.length
      · rw [List.getElem?_append_left h, List.getElem?_append_left h]
      · rw [List.getElem?_append_right (by omega), List.getElem?_append_right (by omega)]
        obtain ⟨j, hj⟩ : ∃ j, to - l1.length = j + 1 := ⟨to - l1.length - 1, by omega⟩
        rw [hj, List.getElem?_cons_succ, List.getElem?_cons_succ]
  generalize hbs1 : l1 ++ B' :: l2 = bs1 at *
  obtain ⟨m1, m2, rfl, hm1⟩ : ∃ m1 m2, bs1 = m1 ++ T1 :: m2 ∧ m1.length = to := ⟨bs1.take to, bs1.drop (to + 1), by
    rw [← (List.getElem?_eq_some_iff.1 hT1).2, List.getElem_cons_drop, List.take_append_drop], by rw [List.length_take]; omega⟩
  have hTd := hbd1 T1 (by simp)
  refine g_permH (pull_blk _ _ _ _ _) ?_
  refine g_unjoin ?_
  refine g_permH (H1 := phV T1 :: Ent.box p [nm, pa, re, .slice (some ⟨vb, vo, none⟩) n c] 35 :: Ent.vec (some ⟨vb, vo, none⟩) n c 47 6 ((m1 ++ T1 :: m2).flatMap blkC) :: (T1.ps.map phE ++ (rpE T1 ++ (m1 ++ m2).map blkE))) ?_ ?_
  · refine ((blkPs_ph T1).append_right _).trans (List.Perm.cons _ ?_)
    rw [← List.append_assoc]
    exact (List.perm_append_comm (l₁ := T1.ps.map phE ++ rpE T1)).trans ((List.perm_append_comm (l₁ := (m1 ++ m2).map blkE)).cons _ |>.cons _)
  have hoc2 : ∀ X : Ent, OwnCell (X :: Ent.box p [nm, pa, re, .slice (some ⟨vb, vo, none⟩) n c] 35 :: Ent.vec (some ⟨vb, vo, none⟩) n c 47 6 ((m1 ++ T1 :: m2).flatMap blkC) :: (T1.ps.map phE ++ (rpE T1 ++ (m1 ++ m2).map blkE))) vb (vo + to * 6) (.slice T1.pa T1.ps.length T1.pc) := fun X => ⟨fun _ _ _ hw => by
    have h5 := hw.vecCell (k := 2) rfl (flat_at blkC_len (m1 ++ T1 :: m2) to T1 0 _ hT1 rfl)
    rwa [Nat.add_zero] at h5⟩
  have hoc3 := hoc2 (phV T1)
  repeat (first | refine g_op rfl ?_ | refine g_then ?_ | refine g_nil ?_ | refine g_region ?_ | refine g_seq ?_ | refine g_block ?_)
  clear hoc3
  obtain ⟨ps, hps⟩ : ∃ ps, T1.ps = ps := ⟨_, rfl⟩
  obtain ⟨qa, hqa⟩ : ∃ qa, T1.pa = qa := ⟨_, rfl⟩
  obtain ⟨qc, hqc⟩ : ∃ qc, T1.pc = qc := ⟨_, rfl⟩
  obtain ⟨k, hk⟩ : ∃ k, row.idxOf (fr : Int) = k := ⟨_, rfl⟩
  have hkl : k < row.length := by rw [← hk]; exact List.idxOf_lt_length_of_mem hfr
  have hphl : ∀ q ∈ ps, q.l.length = row.length := fun q hq => hph q (by rw [← hT1p, hps]; exact hq)
  have hpd : ∀ q ∈ ps, inI q.dst ∧ q.l.length ≤ 1000 ∧ ∀ v ∈ q.l, inI v.n := fun q hq => hTd.phi q (by rw [hps]; exact hq)
  have hpl : ps.length ≤ 1000 := by rw [← hps]; exact hTd.phis
  unfold phV
  rw [hps, hqa, hqc, hk]
  refine g_loop (fun (es : List PRow) => es.length ≤ ps.length ∧ es.map PRow.phi = (ps.take es.length).map (fun q => turnP k q.phi) ∧ ∀ q ∈ es, inI q.dst ∧ q.l.length ≤ 1000 ∧ ∀ v ∈ q.l, inI v.n) (fun es => [(55, .int .i64 es.length), (53, .slice qa ps.length qc), (54, .int .i64 ps.length), (6, .int .i64 n), (7, .int .i64 (k : Nat)), (0, .pointer (some ⟨p, 0, none⟩)), (1, .int .i64 fr), (2, .int .i64 to)])
    (fun es => Ent.vec qa ps.length qc 69 2 ((es ++ ps.drop es.length).flatMap phiC) :: Ent.box p [nm, pa, re, .slice (some ⟨vb, vo, none⟩) n c] 35 :: Ent.vec (some ⟨vb, vo, none⟩) n c 47 6 ((m1 ++ T1 :: m2).flatMap blkC) :: ((es ++ ps.drop es.length).map phE ++ (rpE T1 ++ (m1 ++ m2).map blkE))) (fun es => ps.length - es.length) [] ⟨Nat.zero_le _, rfl, by simp⟩ (g_done (by repeat (first | exact trivial | refine ⟨rfl, ?_⟩)) (by simp)) fun es ⟨hi, hem, heb⟩ => ?_
  repeat (first | refine g_op rfl ?_ | refine g_then ?_ | refine g_nil ?_ | refine g_region ?_ | refine g_seq ?_)
  refine g_cond (fun h1 => ?_) (fun h1 => ?_)
  · have hlt : es.length < ps.length := by simpa using h1
    generalize hiL : es.length = i at *
    obtain ⟨q, hq⟩ : ∃ q, ps[i]? = some q := ⟨_, List.getElem?_eq_getElem hlt⟩
    have hqm := List.mem_of_getElem? hq
    have hql := hphl q hqm
    obtain ⟨hqd, hqb, hqv⟩ := hpd q hqm
    obtain ⟨pd, pla, plc, pl⟩ := q
    simp only at hql hqd hqb hqv
    refine g_vec 0 rfl (by omega) fun zb zo hza => ?_
    subst hza
    have hlj : LtIs i ps.length := ⟨hlt⟩
    have hget : (es ++ ps.drop i)[i]? = some (⟨pd, pla, plc, pl⟩ : PRow) := by
      rw [List.getElem?_append_right (by omega), hiL, Nat.sub_self, List.getElem?_drop, Nat.add_zero]; exact hq
    have hdr : ps.drop i = (⟨pd, pla, plc, pl⟩ : PRow) :: ps.drop (i + 1) := by rw [List.drop_eq_getElem_cons hlt, (List.getElem?_eq_some_iff.1 hq).2]
    have hpm : ((es ++ ps.drop i).map phE ++ (rpE T1 ++ (m1 ++ m2).map blkE)).Perm (phE ⟨pd, pla, plc, pl⟩ :: ((es ++ ps.drop (i + 1)).map phE ++ (rpE T1 ++ (m1 ++ m2).map blkE))) := by
      rw [hdr]
      simp only [List.map_append, List.map_cons, List.append_assoc, List.cons_append]
      exact List.perm_middle
    refine g_permH (H1 := phE ⟨pd, pla, plc, pl⟩ :: Ent.vec (some ⟨zb, zo, none⟩) ps.length qc 69 2 ((es ++ ps.drop i).flatMap phiC) :: Ent.box p [nm, pa, re, .slice (some ⟨vb, vo, none⟩) n c] 35 :: Ent.vec (some ⟨vb, vo, none⟩) n c 47 6 ((m1 ++ T1 :: m2).flatMap blkC) :: ((es ++ ps.drop (i + 1)).map phE ++ (rpE T1 ++ (m1 ++ m2).map blkE))) ((((hpm.cons _).cons _).cons _).trans (List.perm_middle (l₁ := [_, _, _]))) ?_
    simp only [phE]
    refine g_vec 0 rfl (by omega) fun yb yo hya => ?_
    subst hya
    obtain ⟨pv, hpv⟩ : ∃ v, pl[k]? = some v := ⟨_, List.getElem?_eq_getElem (by omega)⟩
    have hob : OwnAgg (Ent.vec (some ⟨yb, yo, none⟩) pl.length plc 41 2 (pl.flatMap vlC) :: Ent.vec (some ⟨zb, zo, none⟩) ps.length qc 69 2 ((es ++ ps.drop i).flatMap phiC) :: Ent.box p [nm, pa, re, .slice (some ⟨vb, vo, none⟩) n c] 35 :: Ent.vec (some ⟨vb, vo, none⟩) n c 47 6 ((m1 ++ T1 :: m2).flatMap blkC) :: ((es ++ ps.drop (i + 1)).map phE ++ (rpE T1 ++ (m1 ++ m2).map blkE))) zb (zo + i * 2) _ := ownAgg (k := 1) rfl phiC_len hget
    simp only [phiC] at hob
    have hlk : LtIs k pl.length := ⟨by omega⟩
    have hov : ∀ X : Ent, OwnAgg (X :: Ent.vec (some ⟨yb, yo, none⟩) pl.length plc 41 2 (pl.flatMap vlC) :: Ent.vec (some ⟨zb, zo, none⟩) ps.length qc 69 2 ((es ++ ps.drop i).flatMap phiC) :: Ent.box p [nm, pa, re, .slice (some ⟨vb, vo, none⟩) n c] 35 :: Ent.vec (some ⟨vb, vo, none⟩) n c 47 6 ((m1 ++ T1 :: m2).flatMap blkC) :: ((es ++ ps.drop (i + 1)).map phE ++ (rpE T1 ++ (m1 ++ m2).map blkE))) yb (yo + k * 2) _ := fun X => ownAgg (k := 1) rfl vlC_len hpv
    simp only [vlC] at hov
    repeat (first | refine g_op rfl ?_ | refine g_then ?_ | refine g_nil ?_ | refine g_region ?_ | refine g_seq ?_ | refine g_alloc rfl fun _ _ => ?_ | refine g_storeAgg ?_ | refine g_block ?_ | refine g_skip ?_)
    rename_i p10 _ p11 _
    have hoc4 : OwnCell (Ent.box p11 [.bool pv.reg, .int .i64 pv.n] 41 :: Ent.box p10 [.int .i64 pd, .slice (some ⟨yb, yo, none⟩) pl.length plc] 69 :: Ent.box p [nm, pa, re, .slice (some ⟨vb, vo, none⟩) n c] 35 :: Ent.vec (some ⟨vb, vo, none⟩) n c 47 6 ((m1 ++ T1 :: m2).flatMap blkC) :: ((es ++ ps.drop (i + 1)).map phE ++ (rpE T1 ++ (m1 ++ m2).map blkE))) vb (vo + to * 6) (.slice (some ⟨zb, zo, none⟩) ps.length qc) := ⟨fun _ _ _ hw => by
      have h5 := hw.vecCell (k := 3) rfl (flat_at blkC_len (m1 ++ T1 :: m2) to T1 0 _ hT1 rfl)
      rw [hqa, hqc, hps] at h5
      rwa [Nat.add_zero] at h5⟩
    have hao : AddOk (k : Int) 1 := ⟨by omega, by omega⟩
    refine g_drawH (Ent.box p11 [.bool pv.reg, .int .i64 pv.n] 41 :: Ent.box p10 [.int .i64 pd, .slice (some ⟨yb, yo, none⟩) pl.length plc] 69 :: Ent.box p [nm, pa, re, .slice (some ⟨vb, vo, none⟩) n c] 35 :: Ent.vec (some ⟨vb, vo, none⟩) n c 47 6 ((m1 ++ T1 :: m2).flatMap blkC) :: ((es ++ ps.drop (i + 1)).map phE ++ (rpE T1 ++ (m1 ++ m2).map blkE))) mixed (List.Sublist.cons_cons _ (List.Sublist.cons_cons _ (List.Sublist.cons _ (List.Sublist.cons _ (List.Sublist.refl _))))) ?_
    refine h_take 0 rfl (by decide +kernel) (List.Sublist.cons_cons _ (List.Sublist.cons_cons _ (List.Sublist.cons _ (List.Sublist.cons _ (List.Sublist.refl _))))) ?_
    refine h_take 1 rfl (by decide +kernel) (List.Sublist.cons_cons _ (List.Sublist.cons_cons _ (List.Sublist.cons _ (List.Sublist.cons _ (List.Sublist.refl _))))) ?_
    refine h_take 2 rfl (by decide +kernel) (List.Sublist.cons_cons _ (List.Sublist.cons_cons _ (List.Sublist.cons _ (List.Sublist.cons _ (List.Sublist.refl _))))) ?_
    refine h_take 3 rfl (by decide +kernel) (List.Sublist.cons_cons _ (List.Sublist.cons_cons _ (List.Sublist.cons _ (List.Sublist.cons _ (List.Sublist.refl _))))) ?_
    refine h_take 4 rfl (by decide +kernel) (List.Sublist.cons_cons _ (List.Sublist.cons_cons _ (List.Sublist.cons _ (List.Sublist.cons _ (List.Sublist.refl _))))) ?_
    refine h_take 5 rfl (by decide +kernel) (List.Sublist.cons_cons _ (List.Sublist.cons_cons _ (List.Sublist.cons _ (List.Sublist.cons _ (List.Sublist.refl _))))) ?_
    refine h_take 6 rfl (by decide +kernel) (List.Sublist.cons_cons _ (List.Sublist.cons_cons _ (List.Sublist.cons _ (List.Sublist.cons _ (List.Sublist.refl _))))) ?_
    refine h_take 7 rfl (by decide +kernel) (List.Sublist.cons_cons _ (List.Sublist.cons_cons _ (List.Sublist.cons _ (List.Sublist.cons _ (List.Sublist.refl _))))) ?_
    refine h_take 8 rfl (by decide +kernel) (List.Sublist.cons_cons _ (List.Sublist.cons_cons _ (List.Sublist.cons _ (List.Sublist.cons _ (List.Sublist.refl _))))) ?_
    refine h_take 9 rfl (by decide +kernel) (List.Sublist.cons_cons _ (List.Sublist.cons_cons _ (List.Sublist.cons _ (List.Sublist.cons _ (List.Sublist.refl _))))) ?_
    refine h_take 10 rfl (by decide +kernel) (List.Sublist.cons_cons _ (List.Sublist.cons_cons _ (List.Sublist.cons _ (List.Sublist.cons _ (List.Sublist.refl _))))) ?_
    refine h_take 11 rfl (by decide +kernel) (List.Sublist.cons_cons _ (List.Sublist.cons_cons _ (List.Sublist.cons _ (List.Sublist.cons _ (List.Sublist.refl _))))) ?_
    refine h_take 12 rfl (by decide +kernel) (List.Sublist.cons_cons _ (List.Sublist.cons_cons _ (List.Sublist.cons _ (List.Sublist.cons _ (List.Sublist.refl _))))) ?_
    refine h_take 13 rfl (by decide +kernel) (List.Sublist.cons_cons _ (List.Sublist.cons_cons _ (List.Sublist.cons _ (List.Sublist.cons _ (List.Sublist.refl _))))) ?_
    refine h_take 15 rfl (by decide +kernel) (List.Sublist.cons_cons _ (List.Sublist.cons_cons _ (List.Sublist.cons _ (List.Sublist.cons _ (List.Sublist.refl _))))) ?_
    have hdel : ∀ (R : List Ent) (w : World), Wd SS wk ([Ent.vec (some ⟨yb, yo, none⟩) pl.length plc 41 2 (pl.flatMap vlC)] ++ R) w → Ret Tryd.prog 112 [.slice (some ⟨yb, yo, none⟩) pl.length plc, .int .i64 k, .int .i64 ((k : Int) + 1)] w fun u w' => ∃ _x : Unit, u = .slice (some ⟨yb, yo, none⟩) (pl.length - 1) plc ∧ Wd (fps [Ent.vec (some ⟨yb, yo, none⟩) pl.length plc 41 2 (pl.flatMap vlC)]) w [Ent.vec (some ⟨yb, yo, none⟩) (pl.length - 1) plc 41 2 ((pl.eraseIdx k).flatMap vlC)] w' ∧ True := fun R w hw =>
      (deleteVal_c (some ⟨yb, yo, none⟩) plc pl k (by omega) hqb w hw.pre).mono fun u w' ⟨h1, h2⟩ => ⟨(), h1, h2, trivial⟩
    have hnl : pl.length - 1 + 1 = (pl.eraseIdx k ++ [pv]).length := by rw [List.length_append, List.length_eraseIdx, if_pos (by omega)]; rfl
    have hnf : (pl.eraseIdx k).flatMap vlC ++ [.bool pv.reg, .int .i64 pv.n] = (pl.eraseIdx k ++ [pv]).flatMap vlC := by rw [List.flatMap_append]; rfl
    refine h_two 14 16 (by decide +kernel) ?_ ?_
    · refine g_permH (H1 := [Ent.vec (some ⟨yb, yo, none⟩) pl.length plc 41 2 (pl.flatMap vlC)] ++ (Ent.vec (some ⟨zb, zo, none⟩) ps.length qc 69 2 ((es ++ ps.drop i).flatMap phiC) :: Ent.box p11 [.bool pv.reg, .int .i64 pv.n] 41 :: Ent.box p10 [.int .i64 pd, .slice (some ⟨yb, yo, none⟩) pl.length plc] 69 :: Ent.box p [nm, pa, re, .slice (some ⟨vb, vo, none⟩) n c] 35 :: Ent.vec (some ⟨vb, vo, none⟩) n c 47 6 ((m1 ++ T1 :: m2).flatMap blkC) :: ((es ++ ps.drop (i + 1)).map phE ++ (rpE T1 ++ (m1 ++ m2).map blkE)))) (List.Perm.trans (List.Perm.trans ((List.Perm.swap _ _ _).cons _) (List.Perm.swap _ _ _)) (List.Perm.cons _ (List.perm_middle (l₁ := [_, _])))) ?_
      refine o_callS 14 (val := fun _ : Unit => .slice (some ⟨yb, yo, none⟩) (pl.length - 1) plc) (E := fun _ => [Ent.vec (some ⟨yb, yo, none⟩) (pl.length - 1) plc 41 2 ((pl.eraseIdx k).flatMap vlC)]) (φ := fun _ => True) rfl (List.Sublist.cons _ (List.Sublist.refl _)) (hdel _) fun _ _ => ?_
      refine h_build1 16 rfl (by decide +kernel) (by decide +kernel) (List.Sublist.cons _ (List.Sublist.cons _ (List.Sublist.refl _))) fun nb _ => ?_
      try simp only [List.cons_append, List.nil_append]
      refine h_append 17 1 rfl rfl (by decide +kernel) (by omega) (by omega) (by decide +kernel) (fun _ => List.Sublist.cons _ (List.Sublist.cons _ (List.Sublist.cons _ (List.Sublist.refl _)))) fun na nc => ?_
      rw [hnl, hnf]
      refine h_take 18 rfl (by decide +kernel) (List.Sublist.cons _ (List.Sublist.cons _ (List.Sublist.cons _ (List.Sublist.refl _)))) ?_
      refine h_take 19 rfl (by decide +kernel) (List.Sublist.cons _ (List.Sublist.cons _ (List.Sublist.cons _ (List.Sublist.refl _)))) ?_
      have hxs : XSet ((es ++ ps.drop i).flatMap phiC) (i * 2 + 1) (.slice na (pl.eraseIdx k ++ [pv]).length nc) (((es ++ [(⟨pd, na, nc, pl.eraseIdx k ++ [pv]⟩ : PRow)]) ++ ps.drop (i + 1)).flatMap phiC) := ⟨by
          rw [flat_set phiC_len hget (k := 1) (by omega) (y := (⟨pd, na, nc, pl.eraseIdx k ++ [pv]⟩ : PRow)) rfl]
          congr 1
          exact set_mid hiL hlt, by rw [flat_len phiC_len, List.length_append, List.length_drop]; omega⟩
      have hot : ∀ X Y : Ent, OwnAt (X :: Y :: Ent.vec (some ⟨zb, zo, none⟩) ps.length qc 69 2 ((es ++ ps.drop i).flatMap phiC) :: Ent.box p11 [.bool pv.reg, .int .i64 pv.n] 41 :: Ent.box p10 [.int .i64 pd, .slice (some ⟨yb, yo, none⟩) pl.length plc] 69 :: Ent.box p [nm, pa, re, .slice (some ⟨vb, vo, none⟩) n c] 35 :: Ent.vec (some ⟨vb, vo, none⟩) n c 47 6 ((m1 ++ T1 :: m2).flatMap blkC) :: ((es ++ ps.drop (i + 1)).map phE ++ (rpE T1 ++ (m1 ++ m2).map blkE))) zb (zo + i * 2 + 1) 2 zo (i * 2 + 1) ps.length qc 69 2 ((es ++ ps.drop i).flatMap phiC) := fun X Y => ⟨rfl, by omega⟩
      simp only [List.set_cons_succ, List.set_cons_zero]
      refine h_storeV 20 (by decide +kernel) (by decide +kernel) (List.Sublist.cons _ (List.Sublist.cons _ (List.Sublist.cons _ (List.Sublist.refl _)))) ?_
      repeat (first | refine g_then ?_ | refine g_nil ?_ | refine g_region ?_ | refine g_opS rfl ?_ | refine g_inBlock ?_ | refine g_add rfl (by omega) (by omega) ?_)
      have hl1 : (es ++ [(⟨pd, na, nc, pl.eraseIdx k ++ [pv]⟩ : PRow)]).length = i + 1 := by simp [hiL]
      refine g_fix (L' := [(55, .int .i64 ((i : Int) + 1)), (53, .slice (some ⟨zb, zo, none⟩) ps.length qc), (54, .int .i64 ps.length), (6, .int .i64 n), (7, .int .i64 (k : Nat)), (0, .pointer (some ⟨p, 0, none⟩)), (1, .int .i64 fr), (2, .int .i64 to)]) (H' := phE (⟨pd, na, nc, pl.eraseIdx k ++ [pv]⟩ : PRow) :: Ent.vec (some ⟨zb, zo, none⟩) ps.length qc 69 2 (((es ++ [(⟨pd, na, nc, pl.eraseIdx k ++ [pv]⟩ : PRow)]) ++ ps.drop (i + 1)).flatMap phiC) :: Ent.box p [nm, pa, re, .slice (some ⟨vb, vo, none⟩) n c] 35 :: Ent.vec (some ⟨vb, vo, none⟩) n c 47 6 ((m1 ++ T1 :: m2).flatMap blkC) :: ((es ++ ps.drop (i + 1)).map phE ++ (rpE T1 ++ (m1 ++ m2).map blkE))) (by repeat (first | exact trivial | refine ⟨rfl, ?_⟩)) (List.Sublist.cons _ (List.Sublist.cons_cons _ (List.Sublist.cons_cons _ (List.Sublist.cons _ (List.Sublist.cons _ (List.Sublist.refl _)))))) ?_
      have hpn : (phE (⟨pd, na, nc, pl.eraseIdx k ++ [pv]⟩ : PRow) :: ((es ++ ps.drop (i + 1)).map phE ++ (rpE T1 ++ (m1 ++ m2).map blkE))).Perm (((es ++ [(⟨pd, na, nc, pl.eraseIdx k ++ [pv]⟩ : PRow)]) ++ ps.drop (es ++ [(⟨pd, na, nc, pl.eraseIdx k ++ [pv]⟩ : PRow)]).length).map phE ++ (rpE T1 ++ (m1 ++ m2).map blkE)) := by
        rw [hl1]
        simp only [List.map_append, List.map_cons, List.map_nil, List.append_assoc, List.cons_append, List.nil_append]
        exact List.perm_middle.symm
      refine g_permH (((List.perm_middle (l₁ := [_, _, _])).symm).trans (((hpn.cons _).cons _).cons _)) ?_
      refine g_eqH (H1 := Ent.vec (some ⟨zb, zo, none⟩) ps.length qc 69 2 (((es ++ [(⟨pd, na, nc, pl.eraseIdx k ++ [pv]⟩ : PRow)]) ++ ps.drop (es ++ [(⟨pd, na, nc, pl.eraseIdx k ++ [pv]⟩ : PRow)]).length).flatMap phiC) :: Ent.box p [nm, pa, re, .slice (some ⟨vb, vo, none⟩) n c] 35 :: Ent.vec (some ⟨vb, vo, none⟩) n c 47 6 ((m1 ++ T1 :: m2).flatMap blkC) :: (((es ++ [(⟨pd, na, nc, pl.eraseIdx k ++ [pv]⟩ : PRow)]) ++ ps.drop (es ++ [(⟨pd, na, nc, pl.eraseIdx k ++ [pv]⟩ : PRow)]).length).map phE ++ (rpE T1 ++ (m1 ++ m2).map blkE))) (by rw [hl1]) ?_
      refine g_fix (L' := [(55, .int .i64 ((es ++ [(⟨pd, na, nc, pl.eraseIdx k ++ [pv]⟩ : PRow)]).length : Nat)), (53, .slice (some ⟨zb, zo, none⟩) ps.length qc), (54, .int .i64 ps.length), (6, .int .i64 n), (7, .int .i64 (k : Nat)), (0, .pointer (some ⟨p, 0, none⟩)), (1, .int .i64 fr), (2, .int .i64 to)]) ?_ (List.Sublist.refl _) ?_
      · rw [hl1]
        exact (by repeat (first | exact trivial | refine ⟨rfl, ?_⟩))
      refine g_next (es ++ [(⟨pd, na, nc, pl.eraseIdx k ++ [pv]⟩ : PRow)]) ⟨by rw [hl1]; omega, ?_, fun q hq => ?_⟩ (by rw [hl1]; omega) (by repeat (first | exact trivial | refine ⟨rfl, ?_⟩)) (List.Sublist.refl _)
      · rw [hl1, List.take_add_one, hq, List.map_append, List.map_append, hem]
        simp only [Option.toList_some, List.map_cons, List.map_nil, turnP, PRow.phi, List.getD_eq_getElem?_getD, hpv, Option.getD_some]
      · rcases List.mem_append.1 hq with hq | hq
        · exact heb q hq
        · rw [List.mem_singleton.1 hq]
          refine ⟨hqd, by rw [← hnl]; omega, fun v hv => ?_⟩
          rcases List.mem_append.1 hv with hv | hv
          · exact hqv v (List.mem_of_mem_eraseIdx hv)
          · rw [List.mem_singleton.1 hv]; exact hqv pv (List.mem_of_getElem? hpv)
    · refine o_build1 16 rfl (by decide +kernel) (List.Sublist.cons_cons _ (List.Sublist.cons_cons _ (List.Sublist.cons _ (List.Sublist.cons _ (List.Sublist.refl _))))) fun nb _ => ?_
      refine g_permH (H1 := [Ent.vec (some ⟨yb, yo, none⟩) pl.length plc 41 2 (pl.flatMap vlC)] ++ (Ent.vec (some ⟨nb, 0, none⟩) 1 1 41 2 [.bool pv.reg, .int .i64 pv.n] :: Ent.vec (some ⟨zb, zo, none⟩) ps.length qc 69 2 ((es ++ ps.drop i).flatMap phiC) :: Ent.box p11 [.bool pv.reg, .int .i64 pv.n] 41 :: Ent.box p10 [.int .i64 pd, .slice (some ⟨yb, yo, none⟩) pl.length plc] 69 :: Ent.box p [nm, pa, re, .slice (some ⟨vb, vo, none⟩) n c] 35 :: Ent.vec (some ⟨vb, vo, none⟩) n c 47 6 ((m1 ++ T1 :: m2).flatMap blkC) :: ((es ++ ps.drop (i + 1)).map phE ++ (rpE T1 ++ (m1 ++ m2).map blkE)))) (List.Perm.trans (List.perm_middle (l₁ := [_, _, _])) (List.Perm.cons _ (List.Perm.cons _ (List.perm_middle (l₁ := [_, _]))))) ?_
      refine h_callS 14 (val := fun _ : Unit => .slice (some ⟨yb, yo, none⟩) (pl.length - 1) plc) (E := fun _ => [Ent.vec (some ⟨yb, yo, none⟩) (pl.length - 1) plc 41 2 ((pl.eraseIdx k).flatMap vlC)]) (φ := fun _ => True) rfl (by decide +kernel) (List.Sublist.cons _ (List.Sublist.cons _ (List.Sublist.refl _))) (hdel _) fun _ _ => ?_
      refine g_permH (List.Perm.swap _ _ _) ?_
      try simp only [List.cons_append, List.nil_append]
      refine h_append 17 1 rfl rfl (by decide +kernel) (by omega) (by omega) (by decide +kernel) (fun _ => List.Sublist.cons _ (List.Sublist.cons _ (List.Sublist.cons _ (List.Sublist.refl _)))) fun na nc => ?_
      rw [hnl, hnf]
      refine h_take 18 rfl (by decide +kernel) (List.Sublist.cons _ (List.Sublist.cons _ (List.Sublist.cons _ (List.Sublist.refl _)))) ?_
      refine h_take 19 rfl (by decide +kernel) (List.Sublist.cons _ (List.Sublist.cons _ (List.Sublist.cons _ (List.Sublist.refl _)))) ?_
      have hxs : XSet ((es ++ ps.drop i).flatMap phiC) (i * 2 + 1) (.slice na (pl.eraseIdx k ++ [pv]).length nc) (((es ++ [(⟨pd, na, nc, pl.eraseIdx k ++ [pv]⟩ : PRow)]) ++ ps.drop (i + 1)).flatMap phiC) := ⟨by
          rw [flat_set phiC_len hget (k := 1) (by omega) (y := (⟨pd, na, nc, pl.eraseIdx k ++ [pv]⟩ : PRow)) rfl]
          congr 1
          exact set_mid hiL hlt, by rw [flat_len phiC_len, List.length_append, List.length_drop]; omega⟩
      have hot : ∀ X Y : Ent, OwnAt (X :: Y :: Ent.vec (some ⟨zb, zo, none⟩) ps.length qc 69 2 ((es ++ ps.drop i).flatMap phiC) :: Ent.box p11 [.bool pv.reg, .int .i64 pv.n] 41 :: Ent.box p10 [.int .i64 pd, .slice (some ⟨yb, yo, none⟩) pl.length plc] 69 :: Ent.box p [nm, pa, re, .slice (some ⟨vb, vo, none⟩) n c] 35 :: Ent.vec (some ⟨vb, vo, none⟩) n c 47 6 ((m1 ++ T1 :: m2).flatMap blkC) :: ((es ++ ps.drop (i + 1)).map phE ++ (rpE T1 ++ (m1 ++ m2).map blkE))) zb (zo + i * 2 + 1) 2 zo (i * 2 + 1) ps.length qc 69 2 ((es ++ ps.drop i).flatMap phiC) := fun X Y => ⟨rfl, by omega⟩
      simp only [List.set_cons_succ, List.set_cons_zero]
      refine h_storeV 20 (by decide +kernel) (by decide +kernel) (List.Sublist.cons _ (List.Sublist.cons _ (List.Sublist.cons _ (List.Sublist.refl _)))) ?_
      repeat (first | refine g_then ?_ | refine g_nil ?_ | refine g_region ?_ | refine g_opS rfl ?_ | refine g_inBlock ?_ | refine g_add rfl (by omega) (by omega) ?_)
      have hl1 : (es ++ [(⟨pd, na, nc, pl.eraseIdx k ++ [pv]⟩ : PRow)]).length = i + 1 := by simp [hiL]
      refine g_fix (L' := [(55, .int .i64 ((i : Int) + 1)), (53, .slice (some ⟨zb, zo, none⟩) ps.length qc), (54, .int .i64 ps.length), (6, .int .i64 n), (7, .int .i64 (k : Nat)), (0, .pointer (some ⟨p, 0, none⟩)), (1, .int .i64 fr), (2, .int .i64 to)]) (H' := phE (⟨pd, na, nc, pl.eraseIdx k ++ [pv]⟩ : PRow) :: Ent.vec (some ⟨zb, zo, none⟩) ps.length qc 69 2 (((es ++ [(⟨pd, na, nc, pl.eraseIdx k ++ [pv]⟩ : PRow)]) ++ ps.drop (i + 1)).flatMap phiC) :: Ent.box p [nm, pa, re, .slice (some ⟨vb, vo, none⟩) n c] 35 :: Ent.vec (some ⟨vb, vo, none⟩) n c 47 6 ((m1 ++ T1 :: m2).flatMap blkC) :: ((es ++ ps.drop (i + 1)).map phE ++ (rpE T1 ++ (m1 ++ m2).map blkE))) (by repeat (first | exact trivial | refine ⟨rfl, ?_⟩)) (List.Sublist.cons _ (List.Sublist.cons_cons _ (List.Sublist.cons_cons _ (List.Sublist.cons _ (List.Sublist.cons _ (List.Sublist.refl _)))))) ?_
      have hpn : (phE (⟨pd, na, nc, pl.eraseIdx k ++ [pv]⟩ : PRow) :: ((es ++ ps.drop (i + 1)).map phE ++ (rpE T1 ++ (m1 ++ m2).map blkE))).Perm (((es ++ [(⟨pd, na, nc, pl.eraseIdx k ++ [pv]⟩ : PRow)]) ++ ps.drop (es ++ [(⟨pd, na, nc, pl.eraseIdx k ++ [pv]⟩ : PRow)]).length).map phE ++ (rpE T1 ++ (m1 ++ m2).map blkE)) := by
        rw [hl1]
        simp only [List.map_append, List.map_cons, List.map_nil, List.append_assoc, List.cons_append, List.nil_append]
        exact List.perm_middle.symm
      refine g_permH (((List.perm_middle (l₁ := [_, _, _])).symm).trans (((hpn.cons _).cons _).cons _)) ?_
      refine g_eqH (H1 := Ent.vec (some ⟨zb, zo, none⟩) ps.length qc 69 2 (((es ++ [(⟨pd, na, nc, pl.eraseIdx k ++ [pv]⟩ : PRow)]) ++ ps.drop (es ++ [(⟨pd, na, nc, pl.eraseIdx k ++ [pv]⟩ : PRow)]).length).flatMap phiC) :: Ent.box p [nm, pa, re, .slice (some ⟨vb, vo, none⟩) n c] 35 :: Ent.vec (some ⟨vb, vo, none⟩) n c 47 6 ((m1 ++ T1 :: m2).flatMap blkC) :: (((es ++ [(⟨pd, na, nc, pl.eraseIdx k ++ [pv]⟩ : PRow)]) ++ ps.drop (es ++ [(⟨pd, na, nc, pl.eraseIdx k ++ [pv]⟩ : PRow)]).length).map phE ++ (rpE T1 ++ (m1 ++ m2).map blkE))) (by rw [hl1]) ?_
      refine g_fix (L' := [(55, .int .i64 ((es ++ [(⟨pd, na, nc, pl.eraseIdx k ++ [pv]⟩ : PRow)]).length : Nat)), (53, .slice (some ⟨zb, zo, none⟩) ps.length qc), (54, .int .i64 ps.length), (6, .int .i64 n), (7, .int .i64 (k : Nat)), (0, .pointer (some ⟨p, 0, none⟩)), (1, .int .i64 fr), (2, .int .i64 to)]) ?_ (List.Sublist.refl _) ?_
      · rw [hl1]
        exact (by repeat (first | exact trivial | refine ⟨rfl, ?_⟩))
      refine g_next (es ++ [(⟨pd, na, nc, pl.eraseIdx k ++ [pv]⟩ : PRow)]) ⟨by rw [hl1]; omega, ?_, fun q hq => ?_⟩ (by rw [hl1]; omega) (by repeat (first | exact trivial | refine ⟨rfl, ?_⟩)) (List.Sublist.refl _)
      · rw [hl1, List.take_add_one, hq, List.map_append, List.map_append, hem]
        simp only [Option.toList_some, List.map_cons, List.map_nil, turnP, PRow.phi, List.getD_eq_getElem?_getD, hpv, Option.getD_some]
      · rcases List.mem_append.1 hq with hq | hq
        · exact heb q hq
        · rw [List.mem_singleton.1 hq]
          refine ⟨hqd, by rw [← hnl]; omega, fun v hv => ?_⟩
          rcases List.mem_append.1 hv with hv | hv
          · exact hqv v (List.mem_of_mem_eraseIdx hv)
          · rw [List.mem_singleton.1 hv]; exact hqv pv (List.mem_of_getElem? hpv)
  · have hge : es.length = ps.length := by have := h1; simp at this; omega
    rw [hge, List.drop_length, List.append_nil]
    rw [hge, List.take_length] at hem
    obtain ⟨T2, hT2⟩ : ∃ T2 : BRow, T2 = { T1 with ps := es } := ⟨_, rfl⟩
    have hcT : blkC T2 = blkC T1 := by rw [hT2]; simp only [blkC, hge, hps]
    refine g_eqH (H1 := phV T2 :: Ent.box p [nm, pa, re, .slice (some ⟨vb, vo, none⟩) n c] 35 :: Ent.vec (some ⟨vb, vo, none⟩) n c 47 6 ((m1 ++ T2 :: m2).flatMap blkC) :: (T2.ps.map phE ++ (rpE T2 ++ (m1 ++ m2).map blkE))) ?_ ?_
    · have e1 : phV T2 = Ent.vec qa ps.length qc 69 2 (es.flatMap phiC) := by rw [hT2]; simp only [phV, hge, hqa, hqc]
      have e2 : rpE T2 = rpE T1 := by rw [hT2]; rfl
      have e3 : (m1 ++ T2 :: m2).flatMap blkC = (m1 ++ T1 :: m2).flatMap blkC := by simp only [List.flatMap_append, List.flatMap_cons, hcT]
      have e4 : T2.ps = es := by rw [hT2]
      rw [e1, e2, e3, e4]
    refine g_permH (H1 := blkPs T2 ++ (Ent.box p [nm, pa, re, .slice (some ⟨vb, vo, none⟩) n c] 35 :: Ent.vec (some ⟨vb, vo, none⟩) n c 47 6 ((m1 ++ T2 :: m2).flatMap blkC) :: (m1 ++ m2).map blkE)) ?_ ?_
    · refine List.Perm.symm (((blkPs_ph T2).append_right _).trans (List.Perm.cons _ ?_))
      rw [← List.append_assoc]
      exact (List.perm_append_comm (l₁ := T2.ps.map phE ++ rpE T2)).trans ((List.perm_append_comm (l₁ := (m1 ++ m2).map blkE)).cons _ |>.cons _)
    refine g_joinH ?_
    refine g_permH (H1 := Ent.box p [nm, pa, re, .slice (some ⟨vb, vo, none⟩) n c] 35 :: Ent.vec (some ⟨vb, vo, none⟩) n c 47 6 ((m1 ++ T2 :: m2).flatMap blkC) :: (m1 ++ T2 :: m2).map blkE) (pull_blk _ _ _ _ _).symm ?_
    repeat (first | refine g_op rfl ?_ | refine g_then ?_ | refine g_region ?_ | refine g_exit ?_ | refine g_thenExit ?_ | refine g_exitHere ?_ | refine g_build1 rfl rfl fun _ _ => ?_)
    rename_i t92 _ p95 _
    refine g_appendAt 3 rfl rfl (by decide +kernel) (by omega) (by omega) fun na nc => ?_
    simp only [List.set_cons_succ, List.set_cons_zero]
    repeat (first | refine g_op rfl ?_ | refine g_nil ?_ | refine g_store ?_)
    obtain ⟨NB, hNB⟩ : ∃ NB : BRow, NB = ⟨none, 0, [], none, 0, [], 2, ⟨false, 0⟩, some ⟨t92, 0, none⟩, 1, [(to : Int)]⟩ := ⟨_, rfl⟩
    have hTl : (m1 ++ T2 :: m2).length = n := by rw [← hl1n]; simp
    have hes : ∀ q ∈ es, inI q.dst ∧ q.l.length ≤ 1000 ∧ ∀ v ∈ q.l, inI v.n := heb
    refine g_end0 rfl fun w hw => ⟨(na, nc, (m1 ++ T2 :: m2) ++ [NB]), rfl, ?_, ?_, fun b hb => ?_, show ((m1 ++ T2 :: m2) ++ [NB]).length = n + 1 by rw [List.length_append, hTl]; rfl⟩
    · have h2 := back hw
      have h3 : Wd SS w0 (blkPs NB ++ (Ent.box p [nm, pa, re, .slice na (n + 1) nc] 35 :: Ent.vec na (n + 1) nc 47 6 (((m1 ++ T2 :: m2) ++ [NB]).flatMap blkC) :: (m1 ++ T2 :: m2).map blkE)) w := by
        have h4 := (h2.nilVec 69 2).nilVec 71 8
        refine h4.pick ⟨[Ent.vec (some ⟨p95, 0, none⟩) 1 1 47 6 (blkC NB)], ?_⟩
        have e5 : blkC NB = [.slice none 0 0, .slice none 0 0, .int .i64 2, .bool false, .int .i64 0, .slice (some ⟨t92, 0, none⟩) 1 1] := by rw [hNB]; rfl
        have e6 : blkPs NB = [Ent.vec none 0 0 69 2 [], Ent.vec none 0 0 71 8 [], Ent.vec (some ⟨t92, 0, none⟩) 1 1 3 1 [.int .i64 (to : Int)]] := by rw [hNB]; rfl
        have e7 : ((m1 ++ T2 :: m2) ++ [NB]).flatMap blkC = (m1 ++ T2 :: m2).flatMap blkC ++ blkC NB := by rw [List.flatMap_append]; simp only [List.flatMap_cons, List.flatMap_nil, List.append_nil]
        rw [e7, e6, e5]
        classical
        refine List.perm_iff_count.2 fun e => ?_
        simp only [List.count_append, List.count_cons, List.count_nil]
        omega
      refine (Wd.join h3).perm ?_
      simp only [List.length_append, List.length_singleton, hTl, List.map_append, List.map_cons, List.map_nil, blkE]
      classical
      refine List.perm_iff_count.2 fun e => ?_
      simp only [List.count_append, List.count_cons, List.count_nil]
      omega
    · have hlb : ((l1 ++ B :: l2).map BRow.blk).length = n := by rw [List.length_map, hnL]
      have e : to = (m1.map BRow.blk).length := by rw [List.length_map, hm1]
      have hmid : (m1 ++ T2 :: m2).map BRow.blk = ((m1 ++ T1 :: m2).map BRow.blk).modify to fun b => { b with phis := b.phis.map (turnP k) } := by
        rw [List.map_append, List.map_append, List.map_cons, List.map_cons, e, modify_mid, hT2]
        congr 2
        simp only [BRow.blk, hem, hps, List.map_map]
        rfl
      unfold betweenL
      simp only
      rw [hlb, ← hblk1, ← hmid, List.map_append, hNB]
      rfl
    · rcases List.mem_append.1 hb with hb | hb
      · rcases List.mem_append.1 hb with h | h
        · exact hbd1 b (List.mem_append_left _ h)
        rcases List.mem_cons.1 h with rfl | h
        · rw [hT2]
          exact ⟨hTd.kind, hTd.on, by simp only; omega, heb, hTd.list, hTd.ins, hTd.to⟩
        · exact hbd1 b (by simp [h])
      · rw [List.mem_singleton.1 hb, hNB]
        refine ⟨show inI (2 : Int) from ⟨by omega, by omega⟩, show inI (0 : Int) from ⟨by omega, by omega⟩, by simp, by simp, by simp, by simp, by simp, fun t ht => ?_⟩
        simp only [List.mem_singleton] at ht
        subst ht
        exact ⟨by omega, by omega⟩
end Go.Proofs.YtbmnkjaelfjlhaaDoor


/- Plain: blocks of which some edges are split. -/
namespace Go.Proofs.YtbmnkjaelfjlhaaDoor
open Go Go.RowKit

def frTo (n : Nat) (D : List (Nat × Nat)) (b : Nat) (t : Int) : Int := if (b, t.toNat) ∈ D then ((n + D.idxOf (b, t.toNat) : Nat) : Int) else t
def stay (bl : List LBlock) (D : List (Nat × Nat)) (t : Nat) : List Nat := (preds bl t).filter fun b => decide ((b, t) ∉ D)
def srcAt (bl : List LBlock) (t : Nat) (p : LPhi) (b : Nat) : LVal := p.src.getD ((preds bl t).idxOf b) noV
def inD (D : List (Nat × Nat)) (t : Nat) : List (Nat × Nat) := D.filter fun e => decide (e.2 = t)
def phD (bl : List LBlock) (D : List (Nat × Nat)) (t : Nat) (p : LPhi) : LPhi := ⟨p.dst, (stay bl D t).map (srcAt bl t p) ++ (inD D t).map fun e => srcAt bl t p e.1⟩
def blkD (bl : List LBlock) (D : List (Nat × Nat)) (b : Nat) (B : LBlock) : LBlock := { B with phis := B.phis.map (phD bl D b), to := B.to.map (frTo bl.length D b) }
def jumpB (t : Nat) : LBlock := ⟨[], [], 2, ⟨false, 0⟩, [(t : Int)]⟩
/-- the edges in D go over blocks of their own -/
def splitD (bl : List LBlock) (D : List (Nat × Nat)) : List LBlock := bl.mapIdx (blkD bl D) ++ D.map fun e => jumpB e.2
structure DOk (bl : List LBlock) (D : List (Nat × Nat)) : Prop where
  nodup : D.Nodup
  edge : ∀ e ∈ D, Edge bl e.1 e.2
theorem splitD_len (bl : List LBlock) (D : List (Nat × Nat)) : (splitD bl D).length = bl.length + D.length := by simp [splitD]
theorem splitD_lt {bl : List LBlock} {D : List (Nat × Nat)} {b : Nat} (hb : b < bl.length) : (splitD bl D)[b]? = (bl[b]?).map (blkD bl D b) := by
  unfold splitD
  rw [List.getElem?_append_left (by simpa using hb), List.getElem?_mapIdx]
theorem splitD_ge (bl : List LBlock) (D : List (Nat × Nat)) (j : Nat) : (splitD bl D)[bl.length + j]? = (D[j]?).map fun e => jumpB e.2 := by
  unfold splitD
  rw [List.getElem?_append_right (by simp), List.length_mapIdx, Nat.add_sub_cancel_left, List.getElem?_map]
theorem toOf_lt {bl : List LBlock} {D : List (Nat × Nat)} {b : Nat} (hb : b < bl.length) : toOf (splitD bl D) b = (toOf bl b).map (frTo bl.length D b) := by
  unfold toOf
  rw [splitD_lt hb, List.getElem?_eq_getElem hb]
  rfl
theorem toOf_ge {bl : List LBlock} {D : List (Nat × Nat)} {j : Nat} {e : Nat × Nat} (he : D[j]? = some e) : toOf (splitD bl D) (bl.length + j) = [(e.2 : Int)] := by
  unfold toOf
  rw [splitD_ge, he]
  rfl
theorem edge_of {bl : List LBlock} (hg : GoodB bl) {b : Nat} {t : Int} (h : t ∈ toOf bl b) : 0 ≤ t ∧ t < bl.length ∧ b < bl.length := by
  unfold toOf at h
  split at h
  · rename_i B hB
    have := (hg B (List.mem_of_getElem? hB)).2 t h
    exact ⟨this.1, this.2, (List.getElem?_eq_some_iff.1 hB).1⟩
  · cases h
theorem frTo_eq {bl : List LBlock} {D : List (Nat × Nat)} {b : Nat} {t : Int} {x : Nat} (ht : 0 ≤ t) (hx : x < bl.length) : frTo bl.length D b t = (x : Int) ↔ (t = x ∧ (b, x) ∉ D) := by
  unfold frTo
  split
  · rename_i h
    constructor
    · intro e; omega
    · rintro ⟨rfl, h2⟩
      rw [Int.toNat_natCast] at h
      exact absurd h h2
  · rename_i h
    constructor
    · intro e
      subst e
      rw [Int.toNat_natCast] at h
      exact ⟨rfl, h⟩
    · exact fun e => e.1
theorem mem_toOf {bl : List LBlock} {D : List (Nat × Nat)} (hg : GoodB bl) {b x : Nat} (hb : b < bl.length) (hx : x < bl.length) : (x : Int) ∈ toOf (splitD bl D) b ↔ ((x : Int) ∈ toOf bl b ∧ (b, x) ∉ D) := by
  rw [toOf_lt hb, List.mem_map]
  constructor
  · rintro ⟨t, ht, e⟩
    have := edge_of hg ht
    obtain ⟨rfl, h2⟩ := (frTo_eq this.1 hx).1 e
    exact ⟨ht, h2⟩
  · rintro ⟨h1, h2⟩
    exact ⟨x, h1, (frTo_eq (by omega) hx).2 ⟨rfl, h2⟩⟩
/-- the fresh blocks ahead of t -/
def freshL (n : Nat) (D : List (Nat × Nat)) (t : Nat) : List Nat := ((List.range D.length).filter fun j => decide ((D[j]?.map Prod.snd) = some t)).map (n + ·)
theorem preds_split {bl : List LBlock} {D : List (Nat × Nat)} (hg : GoodB bl) {t : Nat} (ht : t < bl.length) : preds (splitD bl D) t = stay bl D t ++ freshL bl.length D t := by
  unfold preds stay freshL
  rw [splitD_len, List.range_add, List.filter_append]
  congr 1
  · unfold preds
    rw [List.filter_filter]
    refine List.filter_congr fun b hb => ?_
    have hb' := List.mem_range.1 hb
    have := mem_toOf (D := D) hg hb' ht
    by_cases h1 : (t : Int) ∈ toOf (splitD bl D) b
    · obtain ⟨h2, h3⟩ := this.1 h1
      simp [h1, h2, h3]
    · have h2 : ¬ ((t : Int) ∈ toOf bl b ∧ (b, t) ∉ D) := fun h => h1 (this.2 h)
      by_cases h3 : (t : Int) ∈ toOf bl b
      · have h4 : (b, t) ∈ D := Classical.byContradiction fun h => h2 ⟨h3, h⟩
        simp [h1, h3, h4]
      · simp [h1, h3]
  · rw [List.filter_map]
    congr 1
    refine List.filter_congr fun j hj => ?_
    have hj' := List.mem_range.1 hj
    have he : D[j]? = some D[j] := List.getElem?_eq_getElem hj'
    simp only [Function.comp_apply, toOf_ge he, List.mem_singleton, he, Option.map_some, Option.some.injEq, Int.natCast_inj]
    refine decide_eq_decide.2 ⟨fun e => e.symm, fun e => e.symm⟩
theorem fresh_len (n t : Nat) : ∀ D : List (Nat × Nat), (freshL n D t).length = (inD D t).length := by
  intro D
  unfold freshL inD
  rw [List.length_map]
  induction D with
  | nil => rfl
  | cons e D ih =>
    rw [List.length_cons, List.range_succ_eq_map, List.filter_cons, List.filter_map, List.filter_cons]
    have h2 : ((fun j => decide ((((e :: D)[j]?).map Prod.snd) = some t)) ∘ Nat.succ) = fun j => decide (((D[j]?).map Prod.snd) = some t) := by
      funext j
      simp
    rw [h2]
    by_cases h : e.2 = t
    · simp [h, ih]
    · simp [h, ih]
theorem nodup_mapOn {α β : Type} {f : α → β} : ∀ {l : List α}, l.Nodup → (∀ x ∈ l, ∀ y ∈ l, f x = f y → x = y) → (l.map f).Nodup
  | [], _, _ => by simp
  | a :: l, h, hi => by
    rw [List.nodup_cons] at h
    rw [List.map_cons, List.nodup_cons]
    refine ⟨fun hm => ?_, nodup_mapOn h.2 fun x hx y hy => hi x (List.mem_cons_of_mem _ hx) y (List.mem_cons_of_mem _ hy)⟩
    obtain ⟨y, hy, e⟩ := List.mem_map.1 hm
    have := hi y (List.mem_cons_of_mem _ hy) a (List.mem_cons_self ..) e
    subst this
    exact h.1 hy
theorem filter_both {α : Type} (p : α → Bool) : ∀ l : List α, (l.filter p).length + (l.filter fun x => !p x).length = l.length
  | [] => rfl
  | a :: l => by
    have := filter_both p l
    cases h : p a
    · simp only [List.filter_cons, h, Bool.not_false, Bool.false_eq_true, if_false, if_true, List.length_cons]; omega
    · simp only [List.filter_cons, h, Bool.not_true, Bool.false_eq_true, if_false, if_true, List.length_cons]; omega
theorem preds_nodup (bl : List LBlock) (t : Nat) : (preds bl t).Nodup := List.Nodup.sublist List.filter_sublist List.nodup_range
theorem stay_len {bl : List LBlock} {D : List (Nat × Nat)} (hg : GoodB bl) (hD : DOk bl D) (t : Nat) : (stay bl D t).length + (inD D t).length = (preds bl t).length := by
  have h1 : ((preds bl t).filter fun b => decide ((b, t) ∈ D)).length = (inD D t).length := by
    rw [show (inD D t).length = ((inD D t).map Prod.fst).length from (List.length_map _).symm]
    refine List.Perm.length_eq ((List.perm_ext_iff_of_nodup ((preds_nodup bl t).sublist List.filter_sublist) ?_).2 fun b => ?_)
    · unfold inD
      refine nodup_mapOn (hD.nodup.sublist List.filter_sublist) fun x hx y hy e => ?_
      have h3 := (List.mem_filter.1 hx).2
      have h4 := (List.mem_filter.1 hy).2
      simp only [decide_eq_true_eq] at h3 h4
      exact Prod.ext e (by rw [h3, h4])
    · rw [List.mem_filter, List.mem_map]
      unfold inD
      constructor
      · rintro ⟨_, h3⟩
        exact ⟨(b, t), List.mem_filter.2 ⟨by simpa using h3, by simp⟩, rfl⟩
      · rintro ⟨⟨x, y⟩, h3, rfl⟩
        obtain ⟨h4, h5⟩ := List.mem_filter.1 h3
        simp only [decide_eq_true_eq] at h5
        subst h5
        have he := hD.edge _ h4
        refine ⟨preds_mem (edge_of hg he).2.2 he, by simpa using h4⟩
  have h2 := filter_both (fun b => decide ((b, t) ∈ D)) (preds bl t)
  unfold stay
  have h3 : (fun b => !decide ((b, t) ∈ D)) = fun b => decide ((b, t) ∉ D) := by funext b; simp
  rw [h3] at h2
  omega
theorem preds_len {bl : List LBlock} {D : List (Nat × Nat)} (hg : GoodB bl) (hD : DOk bl D) {t : Nat} (ht : t < bl.length) : (preds (splitD bl D) t).length = (preds bl t).length := by
  rw [preds_split hg ht, List.length_append, fresh_len, stay_len hg hD]
theorem phD_len {bl : List LBlock} {D : List (Nat × Nat)} (hg : GoodB bl) (hD : DOk bl D) (t : Nat) (p : LPhi) : (phD bl D t p).src.length = (preds bl t).length := by
  unfold phD
  simp only [List.length_append, List.length_map]
  exact stay_len hg hD t
end Go.Proofs.YtbmnkjaelfjlhaaDoor


/- Plain: an edge more; what stays right. -/
namespace Go.Proofs.YtbmnkjaelfjlhaaDoor
open Go Go.RowKit

theorem list_ext {l m : List LVal} (hl : l.length = m.length) (h : ∀ i : Nat, i < l.length → l.getD i noV = m.getD i noV) : l = m := by
  refine List.ext_getElem hl fun i h1 h2 => ?_
  have := h i h1
  rwa [List.getD_eq_getElem?_getD, List.getD_eq_getElem?_getD, List.getElem?_eq_getElem h1, List.getElem?_eq_getElem h2] at this
theorem srcs_back {bl : List LBlock} {t : Nat} {p : LPhi} (h : p.src.length = (preds bl t).length) : (preds bl t).map (srcAt bl t p) = p.src := by
  refine list_ext (by rw [List.length_map, h]) fun i hi => ?_
  rw [List.length_map] at hi
  rw [List.getD_eq_getElem?_getD, List.getElem?_map, List.getElem?_eq_getElem hi, Option.map_some, Option.getD_some]
  unfold srcAt
  rw [(preds_nodup bl t).idxOf_getElem i hi]
theorem splitD_nil {bl : List LBlock} (h : ∀ (t : Nat) T, bl[t]? = some T → ∀ p ∈ T.phis, p.src.length = (preds bl t).length) : splitD bl [] = bl := by
  unfold splitD
  rw [List.map_nil, List.append_nil]
  apply List.ext_getElem?
  intro i
  rw [List.getElem?_mapIdx]
  cases hB : bl[i]? with
  | none => rfl
  | some B =>
    rw [Option.map_some]
    congr 1
    unfold blkD
    have e1 : B.phis.map (phD bl [] i) = B.phis := by
      conv => rhs; rw [← List.map_id B.phis]
      refine List.map_congr_left fun p hp => ?_
      unfold phD stay inD
      have e2 : ((preds bl i).filter fun b => decide ((b, i) ∉ ([] : List (Nat × Nat)))) = preds bl i := List.filter_eq_self.2 fun b _ => by simp
      rw [e2, List.filter_nil, List.map_nil, List.append_nil, srcs_back (h i B hB p hp)]
      rfl
    have e2 : B.to.map (frTo bl.length [] i) = B.to := by
      conv => rhs; rw [← List.map_id B.to]
      refine List.map_congr_left fun t _ => ?_
      simp [frTo]
    rw [e1, e2]
theorem set_idx {f g : Int → Int} {t v : Int} : ∀ {l : List Int}, l.Nodup → t ∈ l → f t = t → (∀ x ∈ l, f x = t → x = t) → (∀ x ∈ l, x ≠ t → g x = f x) → g t = v → (l.map f).set ((l.map f).idxOf t) v = l.map g
  | [], _, h, _, _, _, _ => by cases h
  | x :: l, hn, hm, h1, h2, h3, h4 => by
    rw [List.nodup_cons] at hn
    by_cases e : x = t
    · subst e
      rw [List.map_cons, List.map_cons, h1, List.idxOf_cons_self, List.set_cons_zero, h4]
      congr 1
      exact List.map_congr_left fun y hy => (h3 y (List.mem_cons_of_mem _ hy) fun e => hn.1 (e ▸ hy)).symm
    · have hfx : f x ≠ t := fun h => e (h2 x (List.mem_cons_self ..) h)
      rw [List.map_cons, List.map_cons, List.idxOf_cons, show (f x == t) = false by simpa using hfx, cond_false, List.set_cons_succ, h3 x (List.mem_cons_self ..) e]
      congr 1
      refine set_idx hn.2 ?_ h1 (fun y hy => h2 y (List.mem_cons_of_mem _ hy)) (fun y hy => h3 y (List.mem_cons_of_mem _ hy)) h4
      rcases List.mem_cons.1 hm with h | h
      · exact absurd h.symm e
      · exact h
theorem DOk.snoc {bl : List LBlock} {D : List (Nat × Nat)} (h : DOk bl D) {b t : Nat} (he : Edge bl b t) (hn : (b, t) ∉ D) : DOk bl (D ++ [(b, t)]) := by
  refine ⟨List.nodup_append.2 ⟨h.nodup, by simp, fun x hx y hy e => ?_⟩, fun e h2 => ?_⟩
  · rw [List.mem_singleton.1 hy] at e
    subst e
    exact hn hx
  · rcases List.mem_append.1 h2 with h2 | h2
    · exact h.edge e h2
    · rw [List.mem_singleton.1 h2]; exact he
theorem idx_snoc {D : List (Nat × Nat)} {e x : Nat × Nat} (h : x ∈ D) : (D ++ [e]).idxOf x = D.idxOf x := by rw [List.idxOf_append, if_pos h]
theorem frTo_other {n : Nat} {D : List (Nat × Nat)} {b t c : Nat} {x : Int} (h : (c, x.toNat) ≠ (b, t)) : frTo n (D ++ [(b, t)]) c x = frTo n D c x := by
  unfold frTo
  by_cases h1 : (c, x.toNat) ∈ D
  · rw [if_pos h1, if_pos (List.mem_append_left _ h1), idx_snoc h1]
  · rw [if_neg h1, if_neg fun h2 => (List.mem_append.1 h2).elim h1 fun h3 => h (List.mem_singleton.1 h3)]
theorem stay_snoc {bl : List LBlock} {D : List (Nat × Nat)} {b t c : Nat} (h : c ≠ t) : stay bl (D ++ [(b, t)]) c = stay bl D c := by
  unfold stay
  refine List.filter_congr fun x _ => decide_eq_decide.2 ?_
  rw [List.mem_append, List.mem_singleton]
  constructor
  · exact fun h1 h2 => h1 (.inl h2)
  · rintro h1 (h2 | h2)
    · exact h1 h2
    · exact h (congrArg Prod.snd h2)
theorem inD_snoc {D : List (Nat × Nat)} {b t c : Nat} : inD (D ++ [(b, t)]) c = inD D c ++ if t = c then [(b, t)] else [] := by
  unfold inD
  rw [List.filter_append]
  congr 1
  by_cases h : t = c <;> simp [h]
theorem stay_erase {bl : List LBlock} {D : List (Nat × Nat)} {b t : Nat} (hb : b ∈ stay bl D t) : stay bl (D ++ [(b, t)]) t = (stay bl D t).eraseIdx ((stay bl D t).idxOf b) := by
  have hnd : (stay bl D t).Nodup := (preds_nodup bl t).sublist List.filter_sublist
  rw [← List.erase_eq_eraseIdx_of_idxOf rfl, hnd.erase_eq_filter]
  unfold stay
  rw [List.filter_filter]
  refine List.filter_congr fun x _ => ?_
  by_cases h1 : x = b
  · subst h1; simp
  · simp [h1]
theorem map_eraseIdx' {α β : Type} (f : α → β) (l : List α) (i : Nat) : (l.eraseIdx i).map f = (l.map f).eraseIdx i := by rw [List.eraseIdx_eq_take_drop_succ, List.eraseIdx_eq_take_drop_succ, List.map_append, List.map_take, List.map_drop]
theorem between_split {bl : List LBlock} {D : List (Nat × Nat)} (hg : GoodB bl) (hnd : ∀ (b : Nat) B, bl[b]? = some B → B.to.Nodup) (hD : DOk bl D) {b t : Nat} (he : Edge bl b t) (hn : (b, t) ∉ D) :
    betweenL (splitD bl D) b t ((preds (splitD bl D) t).idxOf b) = splitD bl (D ++ [(b, t)]) := by
  have hE := edge_of hg he
  have hbn : b < bl.length := hE.2.2
  have htn : t < bl.length := by omega
  have hbs : b ∈ stay bl D t := List.mem_filter.2 ⟨preds_mem hbn he, by simpa using hn⟩
  have hk : (preds (splitD bl D) t).idxOf b = (stay bl D t).idxOf b := by rw [preds_split hg htn, List.idxOf_append, if_pos hbs]
  have hkl := List.idxOf_lt_length_of_mem hbs
  rw [hk]
  generalize hkk : (stay bl D t).idxOf b = k at *
  have hkb : (stay bl D t)[k]? = some b := by rw [← hkk, List.getElem?_eq_getElem (by omega), List.getElem_idxOf]
  unfold betweenL
  simp only
  apply List.ext_getElem?
  intro i
  have hlen2 : (((splitD bl D).modify b fun B => { B with to := B.to.set (B.to.idxOf (t : Int)) ((splitD bl D).length : Int) }).modify t fun B => { B with phis := B.phis.map (turnP k) }).length = bl.length + D.length := by rw [List.length_modify, List.length_modify, splitD_len]
  rcases Nat.lt_trichotomy i (bl.length + D.length) with hi | hi | hi
  · rw [List.getElem?_append_left (by omega), List.getElem?_modify, List.getElem?_modify]
    by_cases hin : i < bl.length
    · rw [splitD_lt hin, splitD_lt hin]
      obtain ⟨B, hB⟩ : ∃ B, bl[i]? = some B := ⟨_, List.getElem?_eq_getElem hin⟩
      rw [hB]
      simp only [Option.map_some, Option.map_eq_map, Option.some.injEq]
      have hBto := hnd i B hB
      have hto : (if b = i then { blkD bl D i B with to := (blkD bl D i B).to.set ((blkD bl D i B).to.idxOf (t : Int)) ((splitD bl D).length : Int) } else blkD bl D i B) = { blkD bl D i B with to := B.to.map (frTo bl.length (D ++ [(b, t)]) i) } := by
        by_cases e : b = i
        · subst e
          rw [if_pos rfl]
          unfold blkD
          simp only [LBlock.mk.injEq, true_and]
          have htB : (t : Int) ∈ B.to := by unfold Edge toOf at he; rw [hB] at he; exact he
          refine set_idx hBto htB ((frTo_eq (by omega) htn).2 ⟨rfl, hn⟩) (fun x hx e => ?_) (fun x hx e => ?_) ?_
          · have := (hg B (List.mem_of_getElem? hB)).2 x hx
            exact ((frTo_eq this.1 htn).1 e).1
          · have := (hg B (List.mem_of_getElem? hB)).2 x hx
            exact frTo_other fun h => e (by have := congrArg Prod.snd h; simp only at this; omega)
          · unfold frTo
            rw [Int.toNat_natCast, if_pos (by simp), List.idxOf_append, if_neg hn, splitD_len]
            simp
        · rw [if_neg e]
          unfold blkD
          simp only [LBlock.mk.injEq, true_and]
          exact List.map_congr_left fun x _ => (frTo_other fun h => e (congrArg Prod.fst h).symm).symm
      rw [hto]
      by_cases e : t = i
      · subst e
        rw [if_pos rfl]
        unfold blkD
        simp only [LBlock.mk.injEq, and_true, true_and, List.map_map]
        refine List.map_congr_left fun p _ => ?_
        simp only [Function.comp_apply]
        unfold turnP phD
        simp only [LPhi.mk.injEq, true_and]
        have hkm : k < ((stay bl D t).map (srcAt bl t p)).length := by rw [List.length_map]; omega
        rw [List.eraseIdx_append_of_lt_length hkm, List.getD_eq_getElem?_getD, List.getElem?_append_left hkm, List.getElem?_map, hkb, Option.map_some, Option.getD_some, stay_erase hbs, hkk, inD_snoc, if_pos rfl, map_eraseIdx', List.map_append, List.append_assoc]
        rfl
      · rw [if_neg e]
        unfold blkD
        simp only [LBlock.mk.injEq, and_true, true_and, Option.some.injEq, id]
        refine List.map_congr_left fun p _ => ?_
        unfold phD
        rw [stay_snoc (fun h => e h.symm), inD_snoc, if_neg e, List.append_nil]
    · obtain ⟨j, rfl⟩ : ∃ j, i = bl.length + j := ⟨i - bl.length, by omega⟩
      have h1 : ¬ t = bl.length + j := by omega
      have h2 : ¬ b = bl.length + j := by omega
      rw [splitD_ge, splitD_ge, List.getElem?_append_left (by omega)]
      simp only [h1, h2, if_false]
      cases D[j]? <;> rfl
  · subst hi
    rw [List.getElem?_append_right (by omega), hlen2, Nat.sub_self, splitD_ge, List.getElem?_append_right (by omega), Nat.sub_self]
    rfl
  · rw [List.getElem?_eq_none (by rw [List.length_append, hlen2]; simp; omega), List.getElem?_eq_none (by rw [splitD_len]; simp; omega)]
end Go.Proofs.YtbmnkjaelfjlhaaDoor


/- Plain: the edges that are split, and in which order; the function stays right. -/
namespace Go.Proofs.YtbmnkjaelfjlhaaDoor
open Go Go.RowKit

theorem srcAt_mem {R : Nat} {bl : List LBlock} {t b : Nat} {p : LPhi} (hp : p.src.length = (preds bl t).length) (hb : b ∈ preds bl t) : srcAt bl t p b ∈ p.src := by
  have h := List.idxOf_lt_length_of_mem hb
  unfold srcAt
  rw [List.getD_eq_getElem?_getD, List.getElem?_eq_getElem (by omega), Option.getD_some]
  exact List.getElem_mem _
theorem inD_pred {bl : List LBlock} {D : List (Nat × Nat)} (hg : GoodB bl) (hD : DOk bl D) {t : Nat} {e : Nat × Nat} (he : e ∈ inD D t) : e.1 ∈ preds bl t ∧ e.2 = t ∧ e ∈ D := by
  obtain ⟨h1, h2⟩ := List.mem_filter.1 he
  simp only [decide_eq_true_eq] at h2
  have h3 := hD.edge e h1
  rw [h2] at h3
  exact ⟨preds_mem (edge_of hg h3).2.2 h3, h2, h1⟩
theorem splitD_mem {bl : List LBlock} {D : List (Nat × Nat)} {c : Nat} {C : LBlock} (h : (splitD bl D)[c]? = some C) : (∃ B, c < bl.length ∧ bl[c]? = some B ∧ C = blkD bl D c B) ∨ ∃ j e, c = bl.length + j ∧ D[j]? = some e ∧ C = jumpB e.2 := by
  by_cases hc : c < bl.length
  · rw [splitD_lt hc] at h
    obtain ⟨B, hB, rfl⟩ := Option.map_eq_some_iff.1 h
    exact .inl ⟨B, hc, hB, rfl⟩
  · obtain ⟨j, rfl⟩ : ∃ j, c = bl.length + j := ⟨c - bl.length, by omega⟩
    rw [splitD_ge] at h
    obtain ⟨e, he, rfl⟩ := Option.map_eq_some_iff.1 h
    exact .inr ⟨j, e, rfl, he, rfl⟩
theorem splitD_good {bl : List LBlock} {D : List (Nat × Nat)} (hg : GoodB bl) (hD : DOk bl D) : GoodB (splitD bl D) := fun C hC => by
  obtain ⟨c, hc⟩ := List.getElem?_of_mem hC
  rw [splitD_len]
  rcases splitD_mem hc with ⟨B, hcl, hB, rfl⟩ | ⟨j, e, rfl, he, rfl⟩
  · have hg1 := hg B (List.mem_of_getElem? hB)
    refine ⟨by unfold blkD; simp only [List.length_map]; exact hg1.1, fun t ht => ?_⟩
    unfold blkD at ht
    simp only at ht
    obtain ⟨x, hx, rfl⟩ := List.mem_map.1 ht
    have := hg1.2 x hx
    unfold frTo
    split
    · rename_i h
      have := List.idxOf_lt_length_of_mem h
      omega
    · omega
  · refine ⟨by simp [jumpB], fun t ht => ?_⟩
    simp only [jumpB, List.mem_singleton] at ht
    have := edge_of hg (hD.edge e (List.mem_of_getElem? he))
    omega
theorem splitD_nodup {bl : List LBlock} {D : List (Nat × Nat)} (hg : GoodB bl) (hnd : ∀ (b : Nat) B, bl[b]? = some B → B.to.Nodup) : ∀ (b : Nat) B, (splitD bl D)[b]? = some B → B.to.Nodup := fun c C hC => by
  rcases splitD_mem hC with ⟨B, hcl, hB, rfl⟩ | ⟨j, e, rfl, he, rfl⟩
  · unfold blkD
    refine nodup_mapOn (hnd c B hB) fun x hx y hy e => ?_
    have hx2 := (hg B (List.mem_of_getElem? hB)).2 x hx
    have hy2 := (hg B (List.mem_of_getElem? hB)).2 y hy
    unfold frTo at e
    split at e
    · rename_i h1
      split at e
      · rename_i h2
        have e2 : D.idxOf (c, x.toNat) = D.idxOf (c, y.toNat) := by omega
        have h3 := List.getElem_idxOf (List.idxOf_lt_length_of_mem h1)
        have h4 := List.getElem_idxOf (List.idxOf_lt_length_of_mem h2)
        simp only [e2] at h3
        rw [h3] at h4
        have := congrArg Prod.snd h4
        simp only at this
        omega
      · omega
    · split at e
      · omega
      · exact e
  · simp [jumpB]
theorem splitD_funcOk {R : Nat} {bl : List LBlock} {D : List (Nat × Nat)} (hf : FuncOk R bl) (hD : DOk bl D) : FuncOk R (splitD bl D) := by
  have hg := hf.good
  refine ⟨splitD_good hg hD, fun c C hC => ?_⟩
  have hnd := splitD_nodup (D := D) hg (fun b B hB => (hf.block b B hB).to) c C hC
  rcases splitD_mem hC with ⟨B, hcl, hB, rfl⟩ | ⟨j, e, rfl, he, rfl⟩
  · have hb := hf.block c B hB
    refine ⟨fun p' hp' => ?_, hb.list, hb.on, hnd⟩
    unfold blkD at hp'
    simp only at hp'
    obtain ⟨p, hp, rfl⟩ := List.mem_map.1 hp'
    have hpo := hb.phis p hp
    refine ⟨hpo.dst, by rw [phD_len hg hD, preds_len hg hD hcl], fun v hv => ?_⟩
    unfold phD at hv
    simp only at hv
    rcases List.mem_append.1 hv with hv | hv
    · obtain ⟨x, hx, rfl⟩ := List.mem_map.1 hv
      exact hpo.vals _ (srcAt_mem (R := R) hpo.len (List.mem_filter.1 hx).1)
    · obtain ⟨x, hx, rfl⟩ := List.mem_map.1 hv
      exact hpo.vals _ (srcAt_mem (R := R) hpo.len (inD_pred hg hD hx).1)
  · exact ⟨by simp [jumpB], by simp [jumpB], fun h => by simp [jumpB] at h, hnd⟩

/-! ### Which edges -/
def critP (bl : List LBlock) (b : Nat) (t : Int) : Bool := decide (1 < (toOf bl b).length) && decide (1 < (preds bl t.toNat).length)
def edgesTo (bl : List LBlock) (b i : Nat) : List (Nat × Nat) := (((toOf bl b).take i).filter (critP bl b)).map fun t => (b, t.toNat)
def critTo (bl : List LBlock) (b i : Nat) : List (Nat × Nat) := (List.range b).flatMap (fun c => edgesTo bl c (toOf bl c).length) ++ edgesTo bl b i
def critAll (bl : List LBlock) : List (Nat × Nat) := critTo bl bl.length 0
theorem edgesTo_zero (bl : List LBlock) (b : Nat) : edgesTo bl b 0 = [] := by simp [edgesTo]
theorem critTo_zero (bl : List LBlock) : critTo bl 0 0 = [] := by simp [critTo, edgesTo_zero]
theorem critTo_next (bl : List LBlock) (b : Nat) : critTo bl (b + 1) 0 = critTo bl b (toOf bl b).length := by
  unfold critTo
  rw [edgesTo_zero, List.append_nil, List.range_succ, List.flatMap_append]
  simp
theorem critTo_succ {bl : List LBlock} {b i : Nat} {t : Int} (h : (toOf bl b)[i]? = some t) : critTo bl b (i + 1) = critTo bl b i ++ if critP bl b t then [(b, t.toNat)] else [] := by
  unfold critTo edgesTo
  rw [List.take_add_one, h, List.append_assoc]
  congr 1
  rw [List.filter_append, List.map_append]
  congr 1
  cases e : critP bl b t <;> simp [e]
theorem edgesTo_mem {bl : List LBlock} {b i : Nat} {e : Nat × Nat} (h : e ∈ edgesTo bl b i) : e.1 = b ∧ ∃ (j : Nat) (t : Int), j < i ∧ (toOf bl b)[j]? = some t ∧ e.2 = t.toNat ∧ critP bl b t = true := by
  unfold edgesTo at h
  obtain ⟨t, ht, rfl⟩ := List.mem_map.1 h
  obtain ⟨h1, h2⟩ := List.mem_filter.1 ht
  obtain ⟨j, hj⟩ := List.getElem?_of_mem h1
  rw [List.getElem?_take] at hj
  split at hj
  · rename_i hlt
    exact ⟨rfl, j, t, hlt, hj, rfl, h2⟩
  · cases hj
theorem critTo_mem {bl : List LBlock} {b i : Nat} {e : Nat × Nat} (h : e ∈ critTo bl b i) : ∃ (j : Nat) (t : Int), (toOf bl e.1)[j]? = some t ∧ e.2 = t.toNat ∧ critP bl e.1 t = true ∧ (e.1 < b ∨ (e.1 = b ∧ j < i)) := by
  unfold critTo at h
  rcases List.mem_append.1 h with h | h
  · obtain ⟨c, hc, h2⟩ := List.mem_flatMap.1 h
    obtain ⟨rfl, j, t, _, h4, h5, h6⟩ := edgesTo_mem h2
    exact ⟨j, t, h4, h5, h6, .inl (List.mem_range.1 hc)⟩
  · obtain ⟨rfl, j, t, h3, h4, h5, h6⟩ := edgesTo_mem h
    exact ⟨j, t, h4, h5, h6, .inr ⟨rfl, h3⟩⟩
theorem critTo_not {bl : List LBlock} (hg : GoodB bl) (hnd : ∀ b, (toOf bl b).Nodup) {b i : Nat} {t : Int} (h : (toOf bl b)[i]? = some t) : (b, t.toNat) ∉ critTo bl b i := fun hm => by
  obtain ⟨j, x, h1, h2, _, h3⟩ := critTo_mem hm
  simp only at h1 h2 h3
  have hx := edge_of hg (List.mem_of_getElem? h1)
  have ht := edge_of hg (List.mem_of_getElem? h)
  obtain rfl : t = x := by omega
  rcases h3 with h3 | ⟨_, h3⟩
  · omega
  · have := (List.getElem?_inj (i := i) (j := j) (List.getElem?_eq_some_iff.1 h).1 (hnd b)).1 (h.trans h1.symm)
    omega
theorem toOf_nodup {bl : List LBlock} (hnd : ∀ (b : Nat) B, bl[b]? = some B → B.to.Nodup) (b : Nat) : (toOf bl b).Nodup := by
  unfold toOf
  split
  · rename_i B hB
    exact hnd b B hB
  · exact List.nodup_nil
theorem critTo_ok {bl : List LBlock} (hg : GoodB bl) (hnd : ∀ b, (toOf bl b).Nodup) : ∀ b i, i ≤ (toOf bl b).length → DOk bl (critTo bl b i) := by
  have row : ∀ b, DOk bl (critTo bl b 0) → ∀ i, i ≤ (toOf bl b).length → DOk bl (critTo bl b i) := by
    intro b h0 i
    induction i with
    | zero => exact fun _ => h0
    | succ i ih =>
      intro hi
      obtain ⟨t, ht⟩ : ∃ t, (toOf bl b)[i]? = some t := ⟨_, List.getElem?_eq_getElem (by omega)⟩
      rw [critTo_succ ht]
      have h1 := ih (by omega)
      by_cases e : critP bl b t = true
      · rw [if_pos e]
        refine h1.snoc ?_ (critTo_not hg hnd ht)
        have hm := List.mem_of_getElem? ht
        have := edge_of hg hm
        unfold Edge
        rw [Int.toNat_of_nonneg this.1]
        exact hm
      · rw [if_neg e, List.append_nil]; exact h1
  intro b
  have h0 : DOk bl (critTo bl b 0) := by
    induction b with
    | zero => rw [critTo_zero]; exact ⟨List.nodup_nil, by simp⟩
    | succ b ih => rw [critTo_next]; exact row b ih _ (Nat.le_refl _)
  exact row b h0
theorem toOf_le {bl : List LBlock} (hg : GoodB bl) (b : Nat) : (toOf bl b).length ≤ 2 := by
  unfold toOf
  split
  · rename_i B hB
    exact (hg B (List.mem_of_getElem? hB)).1
  · simp
theorem critTo_len {bl : List LBlock} (hg : GoodB bl) (b i : Nat) : (critTo bl b i).length ≤ 2 * b + i := by
  have h1 : ∀ c i, (edgesTo bl c i).length ≤ i := fun c i => by
    unfold edgesTo
    rw [List.length_map]
    exact Nat.le_trans (List.length_filter_le _ _) (by rw [List.length_take]; omega)
  have h2 : ∀ c, (edgesTo bl c (toOf bl c).length).length ≤ 2 := fun c => Nat.le_trans (h1 c _) (toOf_le hg c)
  unfold critTo
  rw [List.length_append]
  have h3 : ((List.range b).flatMap fun c => edgesTo bl c (toOf bl c).length).length ≤ 2 * b := by
    induction b with
    | zero => simp
    | succ b ih =>
      rw [List.range_succ, List.flatMap_append, List.length_append]
      have := h2 b
      simp only [List.flatMap_cons, List.flatMap_nil, List.append_nil]
      omega
  have := h1 b i
  omega
theorem edgesTo_le (bl : List LBlock) (b i : Nat) : (edgesTo bl b i).length ≤ (edgesTo bl b (toOf bl b).length).length := by
  unfold edgesTo
  rw [List.length_map, List.length_map, List.take_length]
  exact ((List.take_sublist i (toOf bl b)).filter _).length_le
theorem critTo_le (bl : List LBlock) {b i : Nat} (hb : b < bl.length) : (critTo bl b i).length ≤ (critAll bl).length := by
  have h1 : ∀ m k, ((List.range k).flatMap fun c => edgesTo bl c (toOf bl c).length).length ≤ ((List.range (k + m)).flatMap fun c => edgesTo bl c (toOf bl c).length).length := fun m k => by
    rw [List.range_add, List.flatMap_append, List.length_append]
    omega
  have h2 := h1 (bl.length - (b + 1)) (b + 1)
  rw [show b + 1 + (bl.length - (b + 1)) = bl.length by omega, List.range_succ, List.flatMap_append, List.length_append] at h2
  simp only [List.flatMap_cons, List.flatMap_nil, List.append_nil] at h2
  have h3 := edgesTo_le bl b i
  unfold critAll critTo
  rw [List.length_append, edgesTo_zero, List.append_nil]
  omega
end Go.Proofs.YtbmnkjaelfjlhaaDoor

