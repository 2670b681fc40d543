/- Texts joined: SplitA SplitB SplitS. -/
import Derived.Test.YtbmnkjaelfjlhaaDoorGG
import Derived.Test.YtbmnkjaelfjlhaaDoorGI
import Derived.Test.YtbmnkjaelfjlhaaDoorHJ
import Derived.Test.YtbmnkjaelfjlhaaDoorHS
import Derived.Test.YtbmnkjaelfjlhaaDoorHV
/- graph.SplitOf, graph.Split: what they make of a function, a unit. -/
namespace Go.Proofs.YtbmnkjaelfjlhaaDoor
open Go Go.RowKit
attribute [local irreducible] wpListIn Code.wpIn Exit.then Exit.inBlock bodyPost wpQuiet wpAnyIn wpAnyH bodyPostM oneH
set_option maxHeartbeats 4000000

theorem wd_to {S : Nat → Prop} {w0 w : World} {H : List Ent} {B : BRow} (h : Wd S w0 H w) (hm : blkE B ∈ H) (hB : B.Bd) : SlAt w (.slice B.ta B.to.length B.tc) 1 B.to IntV := by
  obtain ⟨r, hr⟩ := mem_pull hm
  have h1 := (h.perm hr).unjoin
  refine h1.slAt (k := 2) rfl rfl (by have := hB.to.1; omega) fun i x hx => ⟨[.int .i64 x], fun j v hj => ?_, rfl, hB.to.2 x (List.mem_of_getElem? hx)⟩
  match j, hj with
  | 0, hj => simpa [hx] using hj
theorem idxOf_cast (b : Nat) : ∀ l : List Nat, (l.map fun x : Nat => (x : Int)).idxOf (b : Int) = l.idxOf b
  | [] => rfl
  | x :: l => by
    rw [List.map_cons, List.idxOf_cons, List.idxOf_cons, idxOf_cast b l]
    congr 1
    by_cases h : x = b
    · subst h; simp
    · have h2 : (x : Int) ≠ b := by omega
      rw [beq_false_of_ne h, beq_false_of_ne h2]
noncomputable def splitF (X : LFunc) : LFunc := putB X (splitD X.blocks (critAll X.blocks))
theorem splitOf_c (X : LFunc) (R : Nat) (hXR : X.regs = R) (hR : R ≤ 100) (hlen : X.blocks.length + (critAll X.blocks).length ≤ 99) (hpar : inI X.params) (hf : FuncOk R X.blocks) (w0 : World) : Turns w0 36 [] [] splitF X := by
  classical
  obtain ⟨xn, xp, xr, xb⟩ := X
  simp only at hXR hlen hpar hf
  subst hXR
  intro a c bs w hbs hbd hch hfr hw
  simp only at hbs
  obtain ⟨bl, hbl⟩ : ∃ bl, bl = bs.map BRow.blk := ⟨_, rfl⟩
  rw [← hbs, ← hbl] at hf hlen
  have hg := hf.good
  have hnd : ∀ (b : Nat) B, bl[b]? = some B → B.to.Nodup := fun b B hB => (hf.block b B hB).to
  have hnt := toOf_nodup hnd
  have hbll : bl.length = bs.length := by rw [hbl, List.length_map]
  have hnil : splitD bl [] = bl := splitD_nil fun t T hT p hp => ((hf.block t T hT).phis p hp).len
  refine Ret.mono (R := fun u w' => ∃ x : Option Addr × Nat × List BRow, u = .agg #[.string xn, .int .i64 xp, .int .i64 R, .slice x.1 x.2.2.length x.2.1] ∧ Wd (fps (fnE a c bs)) w (fnE x.1 x.2.1 x.2.2) w' ∧ x.2.2.map BRow.blk = splitD bl (critAll bl) ∧ ∀ b ∈ x.2.2, b.Bd) ?_ fun u w' ⟨x, h1, h2, h3, h4⟩ => ⟨x, h1, h2, by rw [h3, hbl, hbs]; rfl, h4, ?_, hpar, show inI (R : Int) from ⟨by omega, by omega⟩⟩
  case refine_2 =>
    have h5 : x.2.2.length = (splitD bl (critAll bl)).length := by rw [← h3, List.length_map]
    rw [splitD_len] at h5
    omega
  simp only [List.nil_append, List.append_nil, List.cons_append]
  refine ret_enter Tryd.func36 rfl Tryd.ntmps36 rfl hw ?_
  generalize fps (fnE a c bs) = SS at *
  repeat (first | refine g_op rfl ?_ | refine g_then ?_ | refine g_nil ?_ | refine g_region ?_ | refine g_seq ?_ | refine g_box rfl fun _ _ => ?_ | refine g_alloc rfl fun _ _ => ?_ | refine g_block ?_)
  rename_i p1 _ p2 _
  refine g_loop (fun x : Nat × Option Addr × Nat × List BRow => x.1 ≤ bs.length ∧ x.2.2.2.map BRow.blk = splitD bl (critTo bl x.1 0) ∧ ∀ b ∈ x.2.2.2, b.Bd) (fun x => [(9, .int .i64 x.1), (8, .int .i64 bs.length), (1, .pointer (some ⟨p1, 0, none⟩)), (2, .pointer (some ⟨p2, 0, none⟩))]) (fun x => Ent.box p1 [.string xn, .int .i64 xp, .int .i64 R, .slice x.2.1 x.2.2.2.length x.2.2.1] 35 :: (fnE x.2.1 x.2.2.1 x.2.2.2 ++ [Ent.box p2 [.string ByteArray.empty, .int .i64 0, .int .i64 0, .slice none 0 0] 35])) (fun x => bs.length - x.1) (0, a, c, bs) ⟨Nat.zero_le _, by simp only; rw [critTo_zero, hnil, hbl], hbd⟩ (g_permH (List.perm_append_comm (l₁ := [Ent.box p2 [.string ByteArray.empty, .int .i64 0, .int .i64 0, .slice none 0 0] 35])) (g_done (by repeat (first | exact trivial | refine ⟨rfl, ?_⟩)) (List.Sublist.refl _))) fun x ⟨hb, hxm, hxd⟩ => ?_
  obtain ⟨b, a, c, ys⟩ := x
  simp only at hb hxm hxd ⊢
  repeat (first | refine g_op rfl ?_ | refine g_then ?_ | refine g_nil ?_ | refine g_region ?_ | refine g_seq ?_)
  refine g_cond (fun h1 => ?_) (fun h1 => ?_)
  case refine_2 =>
    obtain rfl : b = bs.length := by have := h1; simp at this; omega
    refine g_permH (List.perm_append_comm (l₁ := Ent.box p1 [.string xn, .int .i64 xp, .int .i64 R, .slice a ys.length c] 35 :: fnE a c ys) (l₂ := [Ent.box p2 [.string ByteArray.empty, .int .i64 0, .int .i64 0, .slice none 0 0] 35])) ?_
    simp only [List.cons_append, List.nil_append]
    repeat (first | refine g_op rfl ?_ | refine g_then ?_ | refine g_nil ?_ | refine g_region ?_ | refine g_seq ?_ | refine g_storeAgg ?_ | refine g_exit ?_ | refine g_thenExit ?_ | refine g_exitHere ?_ | refine g_ret ?_)
    refine g_retC rfl fun w hw => ⟨(a, c, ys), rfl, hw.sub (List.Sublist.cons _ (List.Sublist.cons _ (List.Sublist.refl _))), by simp only; rw [hxm, ← hbll]; rfl, hxd⟩
  have hlt : b < bs.length := by simpa using h1
  have hD0 := critTo_ok hg hnt b 0 (Nat.zero_le _)
  have hysl : ys.length = bl.length + (critTo bl b 0).length := by rw [← splitD_len, ← hxm, List.length_map]
  obtain ⟨B, hB⟩ : ∃ B, ys[b]? = some B := ⟨_, List.getElem?_eq_getElem (by omega)⟩
  have hBm := List.mem_of_getElem? hB
  have hBto : B.to = toOf bl b := by
    have h2 : toOf (ys.map BRow.blk) b = B.to := by unfold toOf; rw [List.getElem?_map, hB]; rfl
    rw [← h2, hxm, toOf_lt (by omega)]
    conv => rhs; rw [← List.map_id (toOf bl b)]
    refine List.map_congr_left fun t _ => ?_
    unfold frTo
    rw [if_neg fun hm => ?_]
    · rfl
    · obtain ⟨_, _, _, _, _, h3⟩ := critTo_mem hm
      simp only at h3
      omega
  unfold fnE
  simp only [List.cons_append]
  refine g_vec 1 rfl (by omega) fun vb vo hva => ?_
  subst hva
  have hlb : LtIs b ys.length := ⟨by omega⟩
  have hoc : ∀ (X : Ent) (Y : List Ent), OwnCell (X :: Ent.vec (some ⟨vb, vo, none⟩) ys.length c 47 6 (ys.flatMap blkC) :: Y) vb (vo + b * 6 + 5) (.slice B.ta B.to.length B.tc) := fun X Y => ⟨fun _ _ _ hw => by
    have h5 := hw.vecCell (k := 1) rfl (flat_at blkC_len ys b B 5 _ hB rfl)
    rwa [← Nat.add_assoc] at h5⟩
  repeat (first | refine g_op rfl ?_ | refine g_then ?_ | refine g_nil ?_ | refine g_region ?_ | refine g_seq ?_ | refine g_block ?_ | refine g_skip ?_)
  refine g_callE (val := fun x : Option Addr × Nat => .slice x.1 B.to.length x.2) (E := fun x => [Ent.vec x.1 B.to.length x.2 3 1 (B.to.map (.int .i64))]) (φ := fun _ => True) rfl (fun w hw => cloneInt_c B.ta B.tc B.to (by have := (hxd B hBm).to.1; omega) w (wd_to hw (by simp only [List.mem_cons, List.mem_append]; exact .inr (.inr (.inl (List.mem_map.2 ⟨B, hBm, rfl⟩)))) (hxd B hBm))) fun x _ => ?_
  obtain ⟨ca, cc⟩ := x
  simp only [List.cons_append, List.nil_append]
  rw [hBto]
  obtain ⟨tos, htos⟩ : ∃ tos, tos = toOf bl b := ⟨_, rfl⟩
  rw [← htos]
  repeat (first | refine g_op rfl ?_ | refine g_then ?_ | refine g_nil ?_ | refine g_block ?_)
  refine g_loop (fun x : Nat × Option Addr × Nat × List BRow => x.1 ≤ tos.length ∧ x.2.2.2.map BRow.blk = splitD bl (critTo bl b x.1) ∧ ∀ b ∈ x.2.2.2, b.Bd) (fun x => [(21, .int .i64 x.1), (20, .int .i64 tos.length), (19, .slice ca tos.length cc), (3, .int .i64 b), (9, .int .i64 b), (8, .int .i64 bs.length), (1, .pointer (some ⟨p1, 0, none⟩)), (2, .pointer (some ⟨p2, 0, none⟩))]) (fun x => Ent.vec ca tos.length cc 3 1 (tos.map (.int .i64)) :: Ent.box p1 [.string xn, .int .i64 xp, .int .i64 R, .slice x.2.1 x.2.2.2.length x.2.2.1] 35 :: (fnE x.2.1 x.2.2.1 x.2.2.2 ++ [Ent.box p2 [.string ByteArray.empty, .int .i64 0, .int .i64 0, .slice none 0 0] 35])) (fun x => tos.length - x.1) (0, some ⟨vb, vo, none⟩, c, ys) ⟨Nat.zero_le _, hxm, hxd⟩ (g_done (by repeat (first | exact trivial | refine ⟨rfl, ?_⟩)) (List.Sublist.refl _)) fun x ⟨hi, hzm, hzd⟩ => ?_
  obtain ⟨i, a, c, zs⟩ := x
  simp only at hi hzm hzd ⊢
  repeat (first | refine g_op rfl ?_ | refine g_then ?_ | refine g_nil ?_ | refine g_region ?_ | refine g_seq ?_)
  refine g_cond (fun h2 => ?_) (fun h2 => ?_)
  case refine_2 =>
    obtain rfl : i = tos.length := by have := h2; simp at this; omega
    repeat (first | refine g_then ?_ | refine g_nil ?_ | refine g_region ?_ | refine g_opS rfl ?_ | refine g_inBlock ?_ | refine g_add rfl (by omega) (by omega) ?_ | refine g_exit ?_ | refine g_thenExit ?_ | refine g_exitHere ?_)
    refine g_next (b + 1, a, c, zs) ⟨by omega, by simp only; rw [hzm, critTo_next, htos], hzd⟩ (by simp only; omega) (by repeat (first | exact trivial | refine ⟨rfl, ?_⟩)) (List.Sublist.cons _ (List.Sublist.refl _))
  have hilt : i < tos.length := by simpa using h2
  obtain ⟨t, ht⟩ : ∃ t, tos[i]? = some t := ⟨_, List.getElem?_eq_getElem hilt⟩
  have htm : t ∈ toOf bl b := by rw [← htos]; exact List.mem_of_getElem? ht
  have htE := edge_of hg htm
  obtain ⟨tn, rfl⟩ : ∃ tn : Nat, t = tn := ⟨t.toNat, by omega⟩
  have hti : (toOf bl b)[i]? = some (tn : Int) := by rw [← htos]; exact ht
  have hsucc := critTo_succ hti
  have hD := critTo_ok hg hnt b i (by rw [← htos]; omega)
  have hDn := critTo_not hg hnt hti
  rw [Int.toNat_natCast] at hDn hsucc
  generalize hDD : critTo bl b i = D at *
  have hDl : D.length ≤ (critAll bl).length := by rw [← hDD]; exact critTo_le bl (by omega)
  have htol := toOf_le hg b
  rw [← htos] at htol
  have hzl : zs.length = bl.length + D.length := by rw [← splitD_len, ← hzm, List.length_map]
  obtain ⟨C, hC⟩ : ∃ C, zs[b]? = some C := ⟨_, List.getElem?_eq_getElem (by omega)⟩
  have hCto : C.to = tos.map (frTo bl.length D b) := by
    have h2 : toOf (zs.map BRow.blk) b = C.to := by unfold toOf; rw [List.getElem?_map, hC]; rfl
    rw [← h2, hzm, toOf_lt (by omega), htos]
  have hCl : C.to.length = tos.length := by rw [hCto, List.length_map]
  have hgz : GoodB (zs.map BRow.blk) := by rw [hzm]; exact splitD_good hg hD
  unfold fnE
  simp only [List.cons_append]
  refine g_vec 0 rfl (by omega) fun tb tz hta => ?_
  subst hta
  refine g_vec 2 rfl (by omega) fun zb zo hza => ?_
  subst hza
  have hlb2 : LtIs b zs.length := ⟨by omega⟩
  have hli : LtIs i tos.length := ⟨hilt⟩
  have hel : ElAt tos i (tn : Int) := ⟨ht⟩
  have hoc2 : ∀ (X Z : Ent) (Y : List Ent), OwnCell (X :: Z :: Ent.vec (some ⟨zb, zo, none⟩) zs.length c 47 6 (zs.flatMap blkC) :: Y) zb (zo + b * 6 + 5) (.slice C.ta tos.length C.tc) := fun X Z Y => ⟨fun _ _ _ hw => by
    have h5 := hw.vecCell (k := 2) rfl (flat_at blkC_len zs b C 5 _ hC rfl)
    rw [hCl] at h5
    rwa [← Nat.add_assoc] at h5⟩
  repeat (first | refine g_op rfl ?_ | refine g_then ?_ | refine g_nil ?_ | refine g_region ?_ | refine g_seq ?_ | refine g_block ?_ | refine g_skip ?_)
  by_cases hc1 : 1 < tos.length
  case neg =>
    rw [show decide ((1 : Int) < (tos.length : Int)) = false by simp; omega]
    repeat (first | refine g_op rfl ?_ | refine g_then ?_ | refine g_nil ?_ | refine g_region ?_ | refine g_opS rfl ?_ | refine g_pass rfl ?_ | refine g_inBlock ?_ | refine g_skip ?_ | refine g_condF ?_ | refine g_add rfl (by omega) (by omega) ?_)
    have hcp : critP bl b (tn : Int) = false := by unfold critP; rw [← htos, decide_eq_false hc1, Bool.false_and]
    refine g_next (i + 1, some ⟨zb, zo, none⟩, c, zs) ⟨hilt, by simp only; rw [hsucc, hcp, if_neg (by simp), List.append_nil]; exact hzm, hzd⟩ (by simp only; omega) (by repeat (first | exact trivial | refine ⟨rfl, ?_⟩)) (List.Sublist.refl _)
  rw [show decide ((1 : Int) < (tos.length : Int)) = true by simp; omega]
  repeat (first | refine g_op rfl ?_ | refine g_open ?_)
  refine g_callE (val := fun x : (Option Addr × Nat × Nat) × (Nat → Prop) => .slice x.1.1 x.1.2.1 x.1.2.2) (E := fun x => [⟨x.2, fun w => SlAt w (.slice x.1.1 x.1.2.1 x.1.2.2) 1 (aheadL (zs.map BRow.blk)) RowV⟩]) (φ := fun _ => True) rfl (fun w hw => graphAhead_c _ _ _ (zs.map BRow.blk) _ w (Wd.blocks (H := [Ent.box p2 [.string ByteArray.empty, .int .i64 0, .int .i64 0, .slice none 0 0] 35]) (hw.sub (.cons _ (.cons _ (List.Sublist.refl _)))) (by omega) hzd) (by rw [List.length_map]; omega) hgz) fun x _ => ?_
  obtain ⟨⟨aa, an, ac⟩, af⟩ := x
  simp only [List.cons_append, List.nil_append]
  refine g_permH (H1 := (Ent.vec (some ⟨tb, tz, none⟩) tos.length cc 3 1 (tos.map (.int .i64)) :: Ent.box p1 [.string xn, .int .i64 xp, .int .i64 R, .slice (some ⟨zb, zo, none⟩) zs.length c] 35 :: Ent.vec (some ⟨zb, zo, none⟩) zs.length c 47 6 (zs.flatMap blkC) :: (zs.map blkE ++ [Ent.box p2 [.string ByteArray.empty, .int .i64 0, .int .i64 0, .slice none 0 0] 35])) ++ [(⟨af, fun w => SlAt w (.slice aa an ac) 1 (aheadL (zs.map BRow.blk)) RowV⟩ : Ent)]) (List.perm_append_comm (l₁ := [(⟨af, fun w => SlAt w (.slice aa an ac) 1 (aheadL (zs.map BRow.blk)) RowV⟩ : Ent)]) (l₂ := (Ent.vec (some ⟨tb, tz, none⟩) tos.length cc 3 1 (tos.map (.int .i64)) :: Ent.box p1 [.string xn, .int .i64 xp, .int .i64 R, .slice (some ⟨zb, zo, none⟩) zs.length c] 35 :: Ent.vec (some ⟨zb, zo, none⟩) zs.length c 47 6 (zs.flatMap blkC) :: (zs.map blkE ++ [Ent.box p2 [.string ByteArray.empty, .int .i64 0, .int .i64 0, .slice none 0 0] 35])))) ?_
  refine g_holdK fun w1 hw1 => ?_
  have hah : SlAt (killW (fps (Ent.vec (some ⟨tb, tz, none⟩) tos.length cc 3 1 (tos.map (.int .i64)) :: Ent.box p1 [.string xn, .int .i64 xp, .int .i64 R, .slice (some ⟨zb, zo, none⟩) zs.length c] 35 :: Ent.vec (some ⟨zb, zo, none⟩) zs.length c 47 6 (zs.flatMap blkC) :: (zs.map blkE ++ [Ent.box p2 [.string ByteArray.empty, .int .i64 0, .int .i64 0, .slice none 0 0] 35]))) w1) (.slice aa an ac) 1 (aheadL (zs.map BRow.blk)) RowV := hw1.beside (e := (⟨af, fun w => SlAt w (.slice aa an ac) 1 (aheadL (zs.map BRow.blk)) RowV⟩ : Ent)) (by simp)
  have back : ∀ {E : List Ent} {w' : World}, Wd (fps (Ent.vec (some ⟨tb, tz, none⟩) tos.length cc 3 1 (tos.map (.int .i64)) :: Ent.box p1 [.string xn, .int .i64 xp, .int .i64 R, .slice (some ⟨zb, zo, none⟩) zs.length c] 35 :: Ent.vec (some ⟨zb, zo, none⟩) zs.length c 47 6 (zs.flatMap blkC) :: (zs.map blkE ++ [Ent.box p2 [.string ByteArray.empty, .int .i64 0, .int .i64 0, .slice none 0 0] 35]))) (killW (fps (Ent.vec (some ⟨tb, tz, none⟩) tos.length cc 3 1 (tos.map (.int .i64)) :: Ent.box p1 [.string xn, .int .i64 xp, .int .i64 R, .slice (some ⟨zb, zo, none⟩) zs.length c] 35 :: Ent.vec (some ⟨zb, zo, none⟩) zs.length c 47 6 (zs.flatMap blkC) :: (zs.map blkE ++ [Ent.box p2 [.string ByteArray.empty, .int .i64 0, .int .i64 0, .slice none 0 0] 35]))) w1) E w' → Wd SS w (E ++ [(⟨af, fun w => SlAt w (.slice aa an ac) 1 (aheadL (zs.map BRow.blk)) RowV⟩ : Ent)]) w' := fun hw => hw1.comp hw.unkill
  have hold : ∀ {b o : Nat} {v : Value} {l : List Value}, CellsAt (killW (fps (Ent.vec (some ⟨tb, tz, none⟩) tos.length cc 3 1 (tos.map (.int .i64)) :: Ent.box p1 [.string xn, .int .i64 xp, .int .i64 R, .slice (some ⟨zb, zo, none⟩) zs.length c] 35 :: Ent.vec (some ⟨zb, zo, none⟩) zs.length c 47 6 (zs.flatMap blkC) :: (zs.map blkE ++ [Ent.box p2 [.string ByteArray.empty, .int .i64 0, .int .i64 0, .slice none 0 0] 35]))) w1) b o (v :: l) → OldIs (fps (Ent.vec (some ⟨tb, tz, none⟩) tos.length cc 3 1 (tos.map (.int .i64)) :: Ent.box p1 [.string xn, .int .i64 xp, .int .i64 R, .slice (some ⟨zb, zo, none⟩) zs.length c] 35 :: Ent.vec (some ⟨zb, zo, none⟩) zs.length c 47 6 (zs.flatMap blkC) :: (zs.map blkE ++ [Ent.box p2 [.string ByteArray.empty, .int .i64 0, .int .i64 0, .slice none 0 0] 35]))) b := fun hc => killOldIs hc (by simp)
  generalize killW (fps (Ent.vec (some ⟨tb, tz, none⟩) tos.length cc 3 1 (tos.map (.int .i64)) :: Ent.box p1 [.string xn, .int .i64 xp, .int .i64 R, .slice (some ⟨zb, zo, none⟩) zs.length c] 35 :: Ent.vec (some ⟨zb, zo, none⟩) zs.length c 47 6 (zs.flatMap blkC) :: (zs.map blkE ++ [Ent.box p2 [.string ByteArray.empty, .int .i64 0, .int .i64 0, .slice none 0 0] 35]))) w1 = wk at *
  generalize fps (Ent.vec (some ⟨tb, tz, none⟩) tos.length cc 3 1 (tos.map (.int .i64)) :: Ent.box p1 [.string xn, .int .i64 xp, .int .i64 R, .slice (some ⟨zb, zo, none⟩) zs.length c] 35 :: Ent.vec (some ⟨zb, zo, none⟩) zs.length c 47 6 (zs.flatMap blkC) :: (zs.map blkE ++ [Ent.box p2 [.string ByteArray.empty, .int .i64 0, .int .i64 0, .slice none 0 0] 35])) = SH at *
  have hrow : (aheadL (zs.map BRow.blk))[tn]? = some ((preds (splitD bl D) tn).map fun x : Nat => (x : Int)) := by
    rw [hzm] at hgz ⊢
    exact aheadL_get hgz (splitD_nodup hg hnd) (by rw [splitD_len]; omega)
  have hpl := preds_len hg hD (t := tn) (by omega)
  obtain ⟨hanl, _, _, ab, ao, haa, hahel⟩ := hah.at
  have hal : (aheadL (zs.map BRow.blk)).length = zs.length := by unfold aheadL; rw [aheadTo_length, List.length_map]
  obtain ⟨_, hcs, rv, rfl, hrv⟩ := hahel tn _ hrow
  obtain ⟨ra, rn, rc, _, _, rfl, hrn, _⟩ := hrv
  have had : AddrIs aa ab ao := ⟨haa (ne_of_get hrow)⟩
  have hlt2 : LtIs tn an := ⟨by omega⟩
  have hci : CellsIs wk ab (ao + tn * 1) _ := ⟨hcs⟩
  have hoi := hold hcs
  have hrn2 : rn = (preds bl tn).length := by rw [hrn, List.length_map, hpl]
  repeat (first | refine g_op rfl ?_ | refine g_then ?_ | refine g_nil ?_ | refine g_open ?_)
  refine g_unhold back ?_
  by_cases hc2 : 1 < (preds bl tn).length
  case neg =>
    rw [show decide ((1 : Int) < (rn : Int)) = false by simp; omega]
    simp only [List.cons_append]
    repeat (first | refine g_then ?_ | refine g_nil ?_ | refine g_region ?_ | refine g_opS rfl ?_ | refine g_inBlock ?_ | refine g_skip ?_ | refine g_condF ?_ | refine g_add rfl (by omega) (by omega) ?_)
    have hcp : critP bl b (tn : Int) = false := by unfold critP; rw [Int.toNat_natCast, decide_eq_false hc2, Bool.and_false]
    refine g_next (i + 1, some ⟨zb, zo, none⟩, c, zs) ⟨hilt, by simp only; rw [hsucc, hcp, if_neg (by simp), List.append_nil]; exact hzm, hzd⟩ (by simp only; omega) (by repeat (first | exact trivial | refine ⟨rfl, ?_⟩)) (List.sublist_append_left _ _)
  rw [show decide ((1 : Int) < (rn : Int)) = true by simp; omega]
  have hcp : critP bl b (tn : Int) = true := by unfold critP; rw [Int.toNat_natCast, ← htos, decide_eq_true hc1, decide_eq_true hc2]; rfl
  rw [hcp, if_pos rfl] at hsucc
  have hsp := between_split hg hnd hD htm hDn
  refine g_permH (H1 := (Ent.box p1 [.string xn, .int .i64 xp, .int .i64 R, .slice (some ⟨zb, zo, none⟩) zs.length c] 35 :: fnE (some ⟨zb, zo, none⟩) c zs) ++ [Ent.box p2 [.string ByteArray.empty, .int .i64 0, .int .i64 0, .slice none 0 0] 35, (⟨af, fun w => SlAt w (.slice aa an ac) 1 (aheadL (zs.map BRow.blk)) RowV⟩ : Ent), Ent.vec (some ⟨tb, tz, none⟩) tos.length cc 3 1 (tos.map (.int .i64))]) ?_ ?_
  · unfold fnE
    classical
    refine List.perm_iff_count.2 fun e => ?_
    simp only [List.count_append, List.count_cons, List.count_nil]
    omega
  simp only [fnE, List.cons_append]
  repeat (first | refine g_op rfl ?_ | refine g_region ?_ | refine g_condT ?_)
  obtain ⟨T, hT⟩ : ∃ T, zs[tn]? = some T := ⟨_, List.getElem?_eq_getElem (by omega)⟩
  have hTb : (splitD bl D)[tn]? = some T.blk := by rw [← hzm, List.getElem?_map, hT]; rfl
  have hCt : toOf (splitD bl D) b = C.to := by rw [← hzm]; unfold toOf; rw [List.getElem?_map, hC]; rfl
  have hbt : (tn : Int) ∈ toOf (splitD bl D) b := (mem_toOf hg (by omega) (by omega)).2 ⟨htm, hDn⟩
  have hbp : b ∈ preds (splitD bl D) tn := preds_mem (by rw [splitD_len]; omega) hbt
  refine g_eqH (H1 := (Ent.box p1 [.string xn, .int .i64 xp, .int .i64 R, .slice (some ⟨zb, zo, none⟩) zs.length c] 35 :: fnE (some ⟨zb, zo, none⟩) c zs) ++ [Ent.box p2 [.string ByteArray.empty, .int .i64 0, .int .i64 0, .slice none 0 0] 35, (⟨af, fun w => SlAt w (.slice aa an ac) 1 (aheadL (zs.map BRow.blk)) RowV⟩ : Ent), Ent.vec (some ⟨tb, tz, none⟩) tos.length cc 3 1 (tos.map (.int .i64))]) rfl ?_
  refine g_callS (val := fun _ : Option Addr × Nat × List BRow => .tuple #[]) (E := fun x => Ent.box p1 [.string xn, .int .i64 xp, .int .i64 R, .slice x.1 x.2.2.length x.2.1] 35 :: fnE x.1 x.2.1 x.2.2) (φ := fun x => x.2.2.map BRow.blk = splitD bl (D ++ [(b, tn)]) ∧ ∀ B ∈ x.2.2, B.Bd) rfl (fun w hw => (between_c _ _ _ p1 (some ⟨zb, zo, none⟩) c zs b tn C T ((preds (splitD bl D) tn).map fun x : Nat => (x : Int)) w hw.pre (by omega) hzd hgz hC hT (by rw [← hCt]; exact hbt) hrow (List.mem_map.2 ⟨b, hbp, rfl⟩) fun q hq => ?_).mono fun u w' ⟨x, h3, h4, h5, h6, _⟩ => ⟨x, h3, h4, ?_, h6⟩) fun x hx => ?_
  · have h7 := ((splitD_funcOk hf hD).block tn T.blk hTb).phis q.phi (List.mem_map.2 ⟨q, hq, rfl⟩)
    rw [List.length_map]
    exact h7.len
  · rw [h5, hzm, idxOf_cast, hsp]
  obtain ⟨na, nc, zs'⟩ := x
  obtain ⟨hx1, hx2⟩ := hx
  simp only at hx1 hx2
  refine g_permH (H1 := Ent.vec (some ⟨tb, tz, none⟩) tos.length cc 3 1 (tos.map (.int .i64)) :: Ent.box p1 [.string xn, .int .i64 xp, .int .i64 R, .slice na zs'.length nc] 35 :: (fnE na nc zs' ++ [Ent.box p2 [.string ByteArray.empty, .int .i64 0, .int .i64 0, .slice none 0 0] 35]) ++ [(⟨af, fun w => SlAt w (.slice aa an ac) 1 (aheadL (zs.map BRow.blk)) RowV⟩ : Ent)]) ?_ ?_
  · classical
    refine List.perm_iff_count.2 fun e => ?_
    simp only [List.count_append, List.count_cons, List.count_nil, List.cons_append]
    omega
  repeat (first | refine g_then ?_ | refine g_nil ?_ | refine g_region ?_ | refine g_opS rfl ?_ | refine g_inBlock ?_ | refine g_add rfl (by omega) (by omega) ?_)
  refine g_next (i + 1, na, nc, zs') ⟨hilt, by simp only; rw [hsucc]; exact hx1, hx2⟩ (by simp only; omega) (by repeat (first | exact trivial | refine ⟨rfl, ?_⟩)) (List.sublist_append_left _ _)
noncomputable def splitU (u : LUnit) : LUnit := { u with funcs := u.funcs.map splitF }
theorem split_bad (u : LUnit) (hl : light u) (hbad : (checkL u).1 ≠ 0) (g fs : Value) (w0 : World) (hg : SlAt w0 g 3 u.globals GlobalV) (hf : SlAt w0 fs 4 u.funcs FuncV) (hways : CellsAt w0 0 0 waysC) :
    RetV Tryd.prog 14 [.agg #[g, fs]] w0 (.tuple #[.agg #[.slice none 0 0, .slice none 0 0], .agg #[.int .i64 (checkL u).1, .int .i64 (checkL u).2]]) := by
  have hg0 := hg
  have hf0 := hf
  obtain ⟨ga, gn, gc, gb, go, rfl, _⟩ := hg
  obtain ⟨fa, fn, fc, fb, fo, rfl, hfn, _⟩ := hf
  refine ret_enter Tryd.func14 rfl Tryd.ntmps14 rfl (Wd.nil NoS w0) ?_
  repeat (first | refine g_op rfl ?_ | refine g_then ?_ | refine g_nil ?_ | refine g_region ?_ | refine g_seq ?_ | refine g_box rfl fun _ _ => ?_ | refine g_alloc rfl fun _ _ => ?_)
  rename_i p1 _ p2 _ p3 _
  refine g_callV rfl (fun w hw => check_c u hl _ _ w (hg0.keep keeps_global hw.chg) (hf0.keep keeps_func hw.chg) (hways.keep hw.chg)) ?_
  repeat (first | refine g_op rfl ?_ | refine g_then ?_ | refine g_nil ?_ | refine g_region ?_ | refine g_seq ?_ | refine g_alloc rfl fun _ _ => ?_ | refine g_storeAgg ?_)
  rename_i p4 _
  refine g_cond (fun h1 => ?_) (fun h1 => ?_)
  · repeat (refine g_seq ?_)
    refine g_drawW [(2, .pointer (some ⟨p2, 0, none⟩)), (3, .pointer (some ⟨p3, 0, none⟩))] [Ent.box p3 [.int .i64 (checkL u).1, .int .i64 (checkL u).2] 28, Ent.box p2 [.slice none 0 0, .slice none 0 0] 25] mixed ?_ ?_
    · repeat' (first | refine g_any0 (by decide +kernel) ?_ | refine g_any (by decide +kernel) ?_ | refine any_nil | refine any_skip (by decide +kernel) ?_ | refine any_cons ?_ ?_ | refine g_op rfl ?_ | refine g_then ?_ | refine g_nil ?_ | refine g_storeAgg ?_)
      all_goals exact g_done (by repeat (first | exact trivial | refine ⟨rfl, ?_⟩)) (by simp)
    · repeat (first | refine g_then ?_ | refine g_ret ?_ | refine g_thenRet ?_)
      exact g_retCC rfl fun _ hw => ⟨rfl, hw.chg⟩
  · simp at h1
    omega
structure FirstLarge (u : LUnit) (T : LFunc → LFunc) (i : Nat) (X : LFunc) : Prop where
  at' : u.funcs[i]? = some X
  large : largeF (T X) = true
  before : ∀ (j : Nat) (Y : LFunc), j < i → u.funcs[j]? = some Y → largeF (T Y) = false
theorem FirstLarge.one {u : LUnit} {T : LFunc → LFunc} {i j : Nat} {X Y : LFunc} (h : FirstLarge u T i X) (k : FirstLarge u T j Y) : i = j := by
  rcases Nat.lt_trichotomy i j with h1 | h1 | h1
  · exact absurd h.large (by rw [k.before i X h1 h.at']; simp)
  · exact h1
  · exact absurd k.large (by rw [h.before j Y h1 k.at']; simp)
theorem large_or (u : LUnit) (T : LFunc → LFunc) : (∃ i X, FirstLarge u T i X) ∨ ∀ X ∈ u.funcs, largeF (T X) = false := by
  have key : ∀ n, (∃ i X, FirstLarge u T i X) ∨ ∀ (j : Nat) (Y : LFunc), j < n → u.funcs[j]? = some Y → largeF (T Y) = false := by
    intro n
    induction n with
    | zero => exact .inr fun j Y hj => by omega
    | succ n ih =>
      rcases ih with ih | ih
      · exact .inl ih
      · cases hX : u.funcs[n]? with
        | none => exact .inr fun j Y hj hY => ih j Y (by have := (List.getElem?_eq_some_iff.1 hY).1; have := List.getElem?_eq_none_iff.1 hX; omega) hY
        | some X =>
          cases hL : largeF (T X) with
          | true => exact .inl ⟨n, X, hX, hL, ih⟩
          | false =>
            refine .inr fun j Y hj hY => ?_
            by_cases e : j = n
            · subst e
              rw [hX] at hY
              obtain rfl := Option.some.inj hY
              exact hL
            · exact ih j Y (by omega) hY
  rcases key u.funcs.length with h | h
  · exact .inl h
  · refine .inr fun X hX => ?_
    obtain ⟨j, hj⟩ := List.getElem?_of_mem hX
    exact h j X (List.getElem?_eq_some_iff.1 hj).1 hj
structure Fine (u : LUnit) : Prop where
  light : light u
  size : ∀ X ∈ u.funcs, X.blocks.length + (critAll X.blocks).length ≤ 99
theorem slim.fine {u : LUnit} (hsl : slim u) (hch : (checkL u).1 = 0) : Fine u := ⟨hsl.light, fun X hX => by
  obtain ⟨k, hk⟩ := List.getElem?_of_mem hX
  obtain ⟨R, hXR, hR, hfo⟩ := check_func hch hk
  have h1 := critTo_len hfo.good X.blocks.length 0
  have h2 := (hsl.2 X hX).1
  unfold critAll
  omega⟩
theorem splitEach_c (u : LUnit) (hsl : Fine u) (hch : (checkL u).1 = 0) (g fs : Value) (w : World) (hg : SlAt w g 3 u.globals GlobalV) (hf : SlAt w fs 4 u.funcs FuncV) :
    Ret Tryd.prog 35 [.agg #[g, fs], .func (.func 36) #[] #[]] w (EachR u splitF w) :=
  each_c u (check_glim hch) ⟨check_few hsl.light, check_lim hsl.light hch⟩ _ _ w hg hf 36 [] [] splitF fun X hX => by
    obtain ⟨k, hk⟩ := List.getElem?_of_mem hX
    obtain ⟨R, hXR, hR, hfo⟩ := check_func hch hk
    obtain ⟨h1, _, h2, _⟩ := check_small (check_zero.1 hch) hX
    exact splitOf_c X R hXR hR (hsl.size X hX) ⟨by omega, by omega⟩ hfo w
theorem split_big (u : LUnit) (hsl : Fine u) (hch : (checkL u).1 = 0) (i : Nat) (X : LFunc) (hF : FirstLarge u splitF i X) (g fs : Value) (w0 : World) (hg : SlAt w0 g 3 u.globals GlobalV) (hf : SlAt w0 fs 4 u.funcs FuncV) (hways : CellsAt w0 0 0 waysC) :
    RetV Tryd.prog 14 [.agg #[g, fs]] w0 (.tuple #[.agg #[.slice none 0 0, .slice none 0 0], .agg #[.int .i64 10, .int .i64 i]]) := by
  have hl := hsl.light
  have hg0 := hg
  have hf0 := hf
  obtain ⟨ga, gn, gc, gb, go, rfl, _⟩ := hg
  obtain ⟨fa, fn, fc, fb, fo, rfl, hfn, _⟩ := hf
  refine ret_enter Tryd.func14 rfl Tryd.ntmps14 rfl (Wd.nil NoS w0) ?_
  repeat (first | refine g_op rfl ?_ | refine g_then ?_ | refine g_nil ?_ | refine g_region ?_ | refine g_seq ?_ | refine g_box rfl fun _ _ => ?_ | refine g_alloc rfl fun _ _ => ?_)
  rename_i p1 _ p2 _ p3 _
  refine g_callV rfl (fun w hw => check_c u hl _ _ w (hg0.keep keeps_global hw.chg) (hf0.keep keeps_func hw.chg) (hways.keep hw.chg)) ?_
  rw [checkL_zero hch]
  repeat (first | refine g_op rfl ?_ | refine g_then ?_ | refine g_nil ?_ | refine g_region ?_ | refine g_seq ?_ | refine g_alloc rfl fun _ _ => ?_ | refine g_storeAgg ?_ | refine g_skip ?_ | refine g_condF ?_)
  rename_i p4 _
  refine g_callV (u := .tuple #[.agg #[.slice none 0 0, .slice none 0 0], .agg #[.int .i64 10, .int .i64 i]]) rfl (fun w hw => (splitEach_c u hsl hch _ _ w (hg0.keep keeps_global hw.chg) (hf0.keep keeps_func hw.chg)).mono fun v w' h => ?_) ?_
  · rcases h with ⟨j, Y, h1, h2, h3, h4, h5⟩ | ⟨h1, _⟩
    · obtain rfl : j = i := FirstLarge.one ⟨h1, h2, h3⟩ hF
      exact ⟨h4, h5⟩
    · exact absurd hF.large (by rw [h1 X (List.mem_of_getElem? hF.at')]; simp)
  repeat (first | refine g_op rfl ?_ | refine g_then ?_ | refine g_nil ?_ | refine g_storeAgg ?_ | refine g_ret ?_)
  exact g_retCC rfl fun _ hw => ⟨rfl, hw.chg⟩
theorem split_ok (u : LUnit) (hsl : Fine u) (hch : (checkL u).1 = 0) (hN : ∀ X ∈ u.funcs, largeF (splitF X) = false) (g fs : Value) (w0 : World) (hg : SlAt w0 g 3 u.globals GlobalV) (hf : SlAt w0 fs 4 u.funcs FuncV) (hways : CellsAt w0 0 0 waysC) :
    Ret Tryd.prog 14 [.agg #[g, fs]] w0 fun v w' => ∃ x : (Option Addr × Nat) × (Option Addr × Nat) × (Nat → Prop), v = .tuple #[.agg #[.slice x.1.1 u.globals.length x.1.2, .slice x.2.1.1 u.funcs.length x.2.1.2], .agg #[.int .i64 0, .int .i64 0]] ∧ Wd NoS w0 [unitE (splitU u) (.slice x.1.1 u.globals.length x.1.2) (.slice x.2.1.1 u.funcs.length x.2.1.2) x.2.2] w' ∧ True := by
  have hl := hsl.light
  have hg0 := hg
  have hf0 := hf
  obtain ⟨ga, gn, gc, gb, go, rfl, _⟩ := hg
  obtain ⟨fa, fn, fc, fb, fo, rfl, hfn, _⟩ := hf
  refine ret_enter Tryd.func14 rfl Tryd.ntmps14 rfl (Wd.nil NoS w0) ?_
  repeat (first | refine g_op rfl ?_ | refine g_then ?_ | refine g_nil ?_ | refine g_region ?_ | refine g_seq ?_ | refine g_box rfl fun _ _ => ?_ | refine g_alloc rfl fun _ _ => ?_)
  rename_i p1 _ p2 _ p3 _
  refine g_callV rfl (fun w hw => check_c u hl _ _ w (hg0.keep keeps_global hw.chg) (hf0.keep keeps_func hw.chg) (hways.keep hw.chg)) ?_
  rw [checkL_zero hch]
  repeat (first | refine g_op rfl ?_ | refine g_then ?_ | refine g_nil ?_ | refine g_region ?_ | refine g_seq ?_ | refine g_alloc rfl fun _ _ => ?_ | refine g_storeAgg ?_ | refine g_skip ?_ | refine g_condF ?_)
  rename_i p4 _
  refine g_callE (val := fun x : (Option Addr × Nat) × (Option Addr × Nat) × (Nat → Prop) => .tuple #[.agg #[.slice x.1.1 u.globals.length x.1.2, .slice x.2.1.1 u.funcs.length x.2.1.2], .agg #[.int .i64 0, .int .i64 0]]) (E := fun x => [unitE (splitU u) (.slice x.1.1 u.globals.length x.1.2) (.slice x.2.1.1 u.funcs.length x.2.1.2) x.2.2]) (φ := fun _ => True) rfl (fun w hw => (splitEach_c u hsl hch _ _ w (hg0.keep keeps_global hw.chg) (hf0.keep keeps_func hw.chg)).mono fun v w' h => ?_) fun x _ => ?_
  · rcases h with ⟨j, Y, h1, h2, _⟩ | ⟨_, ga, fa, gc, fc, fp, rfl, hw⟩
    · rw [hN Y (List.mem_of_getElem? h1)] at h2
      cases h2
    · exact ⟨((ga, gc), (fa, fc), fp), rfl, hw, trivial⟩
  obtain ⟨⟨ya, yc⟩, ⟨za, zc⟩, fp⟩ := x
  simp only [List.cons_append, List.nil_append]
  repeat (first | refine g_op rfl ?_ | refine g_then ?_ | refine g_nil ?_ | refine g_storeAgg ?_ | refine g_ret ?_)
  refine g_retCC rfl fun w hw => ⟨((ya, yc), (za, zc), fp), rfl, hw.pick inferInstance, trivial⟩
end Go.Proofs.YtbmnkjaelfjlhaaDoor


/- turneryref3.Edges, Row: what they return. -/
namespace Go.Proofs.YtbmnkjaelfjlhaaDoor
open Go Go.RowKit
attribute [local irreducible] wpListIn Code.wpIn Exit.then Exit.inBlock bodyPost wpQuiet wpAnyIn wpAnyH bodyPostM oneH
set_option maxHeartbeats 4000000

end Go.Proofs.YtbmnkjaelfjlhaaDoor


/- Plain: Row of the edges, one of which comes from a fresh block now, is the turned row. -/
namespace Go.Proofs.YtbmnkjaelfjlhaaDoor
open Go Go.RowKit

abbrev Ed := Int × LVal
end Go.Proofs.YtbmnkjaelfjlhaaDoor

