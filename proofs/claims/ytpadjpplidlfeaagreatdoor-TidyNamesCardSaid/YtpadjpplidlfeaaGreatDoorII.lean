/- Texts joined: NamesT NamesL. -/
import Derived.Test.YtpadjpplidlfeaaGreatDoorGE
import Derived.Test.YtpadjpplidlfeaaGreatDoorHJ
import Derived.Test.YtpadjpplidlfeaaGreatDoorHQ
import Derived.Test.YtpadjpplidlfeaaGreatDoorHS
import Derived.Test.YtpadjpplidlfeaaGreatDoorIE
import Derived.Test.YtpadjpplidlfeaaGreatDoorIG
import Derived.Test.YtpadjpplidlfeaaGreatDoorIH
/- tidy.Names and the document's Names. -/
namespace Go.Proofs.YtpadjpplidlfeaaGreatDoor
open Go Go.RowKit
attribute [local irreducible] wpListIn Code.wpIn Exit.then Exit.inBlock bodyPost wpQuiet wpAnyIn wpAnyH bodyPostM oneH
set_option maxHeartbeats 8000000

theorem BRow.Bd.of {b c : BRow} (h : b.blk = c.blk) (hc : c.Bd) : b.Bd := by
  have h1 : b.ps.map PRow.phi = c.ps.map PRow.phi := congrArg LBlock.phis h
  have h2 : b.xs.map (·.x) = c.xs.map (·.x) := congrArg LBlock.list h
  have h3 : b.kind = c.kind := congrArg LBlock.kind h
  have h4 : b.on = c.on := congrArg LBlock.on h
  have h5 : b.to = c.to := congrArg LBlock.to h
  have l1 : b.ps.length = c.ps.length := by have := congrArg List.length h1; rwa [List.length_map, List.length_map] at this
  have l2 : b.xs.length = c.xs.length := by have := congrArg List.length h2; rwa [List.length_map, List.length_map] at this
  refine ⟨by rw [h3]; exact hc.kind, by rw [h4]; exact hc.on, by rw [l1]; exact hc.phis, fun p hp => ?_, by rw [l2]; exact hc.list, fun y hy => ?_, by rw [h5]; exact hc.to⟩
  · have : PRow.phi p ∈ c.ps.map PRow.phi := by rw [← h1]; exact List.mem_map.2 ⟨p, hp, rfl⟩
    obtain ⟨p', hp', e⟩ := List.mem_map.1 this
    have := hc.phi p' hp'
    simp only [PRow.phi, LPhi.mk.injEq] at e
    rw [e.1, e.2] at this
    exact this
  · have : y.x ∈ c.xs.map (·.x) := by rw [← h2]; exact List.mem_map.2 ⟨y, hy, rfl⟩
    obtain ⟨y', hy', e⟩ := List.mem_map.1 this
    have := hc.ins y' hy'
    rw [e] at this
    exact this
theorem refNames_c (X : LFunc) (R : Nat) (hX : FnAll X R) (hlim : FnLim X) (hlen : X.blocks.length ≤ 24) (bs : Value) (w0 : World) (hbs : SlAt w0 bs 6 X.blocks BlockV) (hbd : ∀ b : BRow, b.blk ∈ X.blocks → b.Bd) :
    Ret Tryz.prog 12 [.agg #[.string X.name, .int .i64 X.params, .int .i64 X.regs, bs]] w0 fun u w' => ∃ x : Option Addr × Nat × List BRow, u = .agg #[.string (namesF X).name, .int .i64 (namesF X).params, .int .i64 (namesF X).regs, .slice x.1 x.2.2.length x.2.1] ∧ Wd NoS w0 (fnE x.1 x.2.1 x.2.2) w' ∧ (x.2.2.map BRow.blk = (namesF X).blocks ∧ ∀ b ∈ x.2.2, b.Bd) := by
  classical
  obtain ⟨xn, xp, xr, xb⟩ := X
  have hXR := hX.regs
  have hR := hX.le
  have hf := hX.ok
  have hpos := hX.pos
  have hp2 := hX.par
  simp only at hXR hlen hf hpos hp2 hbs hbd
  subst hXR
  have hg := hf.good
  have hk := orderK_ok hg hpos
  obtain ⟨P, rfl⟩ : ∃ P : Nat, xp = P := ⟨xp.toNat, by omega⟩
  obtain ⟨o, hoD⟩ : ∃ o, o = orderL xb := ⟨_, rfl⟩
  have hol : (postL xb).length = o.length := by rw [hoD]; unfold orderL; rw [List.length_reverse]
  have hol2 := postL_len hpos
  rw [← hoD] at hk
  obtain ⟨kl, hklD⟩ : ∃ kl, kl = keptL xb o := ⟨_, rfl⟩
  have hkf : FuncOk R kl := by rw [hklD]; exact keep_funcOk hf hk
  have hkln : kl.length = o.length := by rw [hklD, keptL_len]
  obtain ⟨ba, n, bc, hbsv⟩ : ∃ a n c, bs = .slice a n c := by
    obtain ⟨a, n, c, _, _, e, _⟩ := hbs
    exact ⟨a, n, c, e⟩
  refine ret_enter Tryz.func12 rfl Tryz.ntmps12 rfl (Wd.nil NoS w0) ?_
  subst hbsv
  have hbs0 := hbs
  simp only
  have huse := hX.uses
  simp only at huse
  have hkuse : ∀ B ∈ kl, ∀ x ∈ B.list, ∃ fs, insErr fs (R : Int) x = 0 := fun B hB x hx => by
    rw [hklD] at hB
    unfold keptL at hB
    obtain ⟨b, hb, rfl⟩ := List.mem_map.1 hB
    exact huse (blkAt xb b) (List.mem_of_getElem? (get_blkAt (hk.lt b hb))) x hx
  have hol3 : o.length ≤ 100 := by omega
  repeat (first | refine g_then ?_ | refine g_nil ?_ | refine g_region ?_ | refine g_seq ?_ | refine g_box rfl fun _ _ => ?_ | refine g_alloc rfl fun _ _ => ?_)
  rename_i p1 _ p2 _
  have hocall : ∀ (H : List Ent) (w : World), Wd NoS w0 H w → Ret Tryz.prog 32 [.agg #[.string xn, .int .i64 (P : Int), .int .i64 (R : Int), .slice ba n bc]] w fun u w' => ∃ x : Option Addr × Nat, u = .slice x.1 o.length x.2 ∧ Wd NoS w [Ent.vec x.1 o.length x.2 3 1 (o.map intN)] w' ∧ True := fun H w hw => by
    have := refOrder_c (.string xn) (.int .i64 (P : Int)) (.int .i64 (R : Int)) xb (.slice ba n bc) ⟨_, _, _, rfl⟩ w (hbs0.keep keeps_block hw.chg) (by omega) hg hpos
    rw [hol] at this
    rw [hoD] at this ⊢
    exact this
  have hkcall : ∀ (k : Nat) (a : Option Addr) (c : Nat) (H : List Ent) (w : World), Wd NoS w0 H w → H[k]? = some (Ent.vec a o.length c 3 1 (o.map intN)) → Ret Tryz.prog 31 [.agg #[.string xn, .int .i64 (P : Int), .int .i64 (R : Int), .slice ba n bc], .slice a o.length c] w fun u w' => ∃ x : Option Addr × Nat × List BRow, u = .agg #[.string xn, .int .i64 (P : Int), .int .i64 (R : Int), .slice x.1 x.2.2.length x.2.1] ∧ Wd NoS w (fnE x.1 x.2.1 x.2.2) w' ∧ (x.2.2.map BRow.blk = kl ∧ ∀ b ∈ x.2.2, b.Bd) := fun k a c H w hw hk2 => by
    rw [hklD]
    exact keptR_c xn P R xb (.slice ba n bc) R hf (by omega) o hk hol3 a o.length c w (hbs0.keep keeps_block hw.chg) hbd (ints_sl hw (k := k) hk2 rfl (by omega) fun x hx => by have := hk.lt x hx; omega)
  refine g_drawX [Ent.box p1 [.string xn, .int .i64 (P : Int), .int .i64 (R : Int), .slice ba n bc] 35] (fun x : Nat × Option Addr × Nat × List BRow => x.2.2.2.map BRow.blk = kl ∧ ∀ b ∈ x.2.2.2, b.Bd) (fun x => [(3, .pointer (some ⟨x.1, 0, none⟩)), (2, .pointer (some ⟨p2, 0, none⟩))]) (fun x => Ent.box x.1 [.string xn, .int .i64 (P : Int), .int .i64 (R : Int), .slice x.2.1 x.2.2.2.length x.2.2.1] 35 :: Ent.box p2 [.string ByteArray.empty, .int .i64 0, .int .i64 0, .slice none 0 0] 35 :: fnE x.2.1 x.2.2.1 x.2.2.2) mixed (by repeat (first | exact List.Sublist.refl _ | refine List.Sublist.cons _ ?_ | refine List.Sublist.trans ?_ (List.sublist_append_right _ _))) ?_ fun x hx => ?_
  · skip
    refine h_take 0 rfl (by decide +kernel) (by repeat (first | exact List.Sublist.refl _ | refine List.Sublist.cons _ ?_ | refine List.Sublist.trans ?_ (List.sublist_append_right _ _))) ?_
    refine h_take 1 rfl (by decide +kernel) (by repeat (first | exact List.Sublist.refl _ | refine List.Sublist.cons _ ?_ | refine List.Sublist.trans ?_ (List.sublist_append_right _ _))) ?_
    refine h_two 2 4 (by decide +kernel) ?_ ?_
    · skip
      (refine o_callE 2 (val := fun x : Option Addr × Nat => .slice x.1 o.length x.2) (E := fun x => [Ent.vec x.1 o.length x.2 3 1 (o.map intN)]) (φ := fun _ => True) rfl (by repeat (first | exact List.Sublist.refl _ | refine List.Sublist.cons _ ?_ | refine List.Sublist.trans ?_ (List.sublist_append_right _ _))) (fun w hw => hocall _ w hw) fun y _ => ?_; obtain ⟨oa, oc⟩ := y; simp only [List.cons_append, List.nil_append])
      refine h_two 3 4 (by decide +kernel) ?_ ?_
      · skip
        (refine o_callE 3 (val := fun x : Option Addr × Nat × List BRow => .agg #[.string xn, .int .i64 (P : Int), .int .i64 (R : Int), .slice x.1 x.2.2.length x.2.1]) (E := fun x => fnE x.1 x.2.1 x.2.2) (φ := fun x => x.2.2.map BRow.blk = kl ∧ ∀ b ∈ x.2.2, b.Bd) rfl (by repeat (first | exact List.Sublist.refl _ | refine List.Sublist.cons _ ?_ | refine List.Sublist.trans ?_ (List.sublist_append_right _ _))) (fun w hw => by first | exact hkcall 0 _ _ _ w hw rfl | exact hkcall 1 _ _ _ w hw rfl) fun z hz => ?_; obtain ⟨na, nc, ks⟩ := z; simp only at hz ⊢)
        refine h_one 4 (by decide +kernel) ?_
        refine o_alloc 4 rfl (by repeat (first | exact List.Sublist.refl _ | refine List.Sublist.cons _ ?_ | refine List.Sublist.trans ?_ (List.sublist_append_right _ _))) fun p3 _ => ?_
        refine g_permH (H1 := Ent.box p3 [.string ByteArray.empty, .int .i64 0, .int .i64 0, .slice none 0 0] 35 :: Ent.box p2 [.string ByteArray.empty, .int .i64 0, .int .i64 0, .slice none 0 0] 35 :: Ent.vec oa o.length oc 3 1 (o.map intN) :: (fnE na nc ks ++ [Ent.box p1 [.string xn, .int .i64 (P : Int), .int .i64 (R : Int), .slice ba n bc] 35])) (List.perm_iff_count.2 fun e => by simp only [List.count_append, List.count_cons, List.count_nil]; omega) ?_
        refine h_storeAgg 5 (by decide +kernel) (by repeat (first | exact List.Sublist.refl _ | refine List.Sublist.cons _ ?_ | refine List.Sublist.trans ?_ (List.sublist_append_right _ _))) ?_
        refine h_end (by decide +kernel) ?_
        exact g_mem (p3, na, nc, ks) hz (by repeat (first | exact trivial | refine ⟨rfl, ?_⟩)) (.cons_cons _ (.cons_cons _ (.cons _ (List.sublist_append_left _ _))))
      · skip
        refine o_alloc 4 rfl (by repeat (first | exact List.Sublist.refl _ | refine List.Sublist.cons _ ?_ | refine List.Sublist.trans ?_ (List.sublist_append_right _ _))) fun p3 _ => ?_
        refine h_one 3 (by decide +kernel) ?_
        (refine o_callE 3 (val := fun x : Option Addr × Nat × List BRow => .agg #[.string xn, .int .i64 (P : Int), .int .i64 (R : Int), .slice x.1 x.2.2.length x.2.1]) (E := fun x => fnE x.1 x.2.1 x.2.2) (φ := fun x => x.2.2.map BRow.blk = kl ∧ ∀ b ∈ x.2.2, b.Bd) rfl (by repeat (first | exact List.Sublist.refl _ | refine List.Sublist.cons _ ?_ | refine List.Sublist.trans ?_ (List.sublist_append_right _ _))) (fun w hw => by first | exact hkcall 0 _ _ _ w hw rfl | exact hkcall 1 _ _ _ w hw rfl) fun z hz => ?_; obtain ⟨na, nc, ks⟩ := z; simp only at hz ⊢)
        refine g_permH (H1 := Ent.box p3 [.string ByteArray.empty, .int .i64 0, .int .i64 0, .slice none 0 0] 35 :: Ent.box p2 [.string ByteArray.empty, .int .i64 0, .int .i64 0, .slice none 0 0] 35 :: Ent.vec oa o.length oc 3 1 (o.map intN) :: (fnE na nc ks ++ [Ent.box p1 [.string xn, .int .i64 (P : Int), .int .i64 (R : Int), .slice ba n bc] 35])) (List.perm_iff_count.2 fun e => by simp only [List.count_append, List.count_cons, List.count_nil]; omega) ?_
        refine h_storeAgg 5 (by decide +kernel) (by repeat (first | exact List.Sublist.refl _ | refine List.Sublist.cons _ ?_ | refine List.Sublist.trans ?_ (List.sublist_append_right _ _))) ?_
        refine h_end (by decide +kernel) ?_
        exact g_mem (p3, na, nc, ks) hz (by repeat (first | exact trivial | refine ⟨rfl, ?_⟩)) (.cons_cons _ (.cons_cons _ (.cons _ (List.sublist_append_left _ _))))
    · skip
      refine o_alloc 4 rfl (by repeat (first | exact List.Sublist.refl _ | refine List.Sublist.cons _ ?_ | refine List.Sublist.trans ?_ (List.sublist_append_right _ _))) fun p3 _ => ?_
      refine h_one 2 (by decide +kernel) ?_
      (refine o_callE 2 (val := fun x : Option Addr × Nat => .slice x.1 o.length x.2) (E := fun x => [Ent.vec x.1 o.length x.2 3 1 (o.map intN)]) (φ := fun _ => True) rfl (by repeat (first | exact List.Sublist.refl _ | refine List.Sublist.cons _ ?_ | refine List.Sublist.trans ?_ (List.sublist_append_right _ _))) (fun w hw => hocall _ w hw) fun y _ => ?_; obtain ⟨oa, oc⟩ := y; simp only [List.cons_append, List.nil_append])
      refine h_one 3 (by decide +kernel) ?_
      (refine o_callE 3 (val := fun x : Option Addr × Nat × List BRow => .agg #[.string xn, .int .i64 (P : Int), .int .i64 (R : Int), .slice x.1 x.2.2.length x.2.1]) (E := fun x => fnE x.1 x.2.1 x.2.2) (φ := fun x => x.2.2.map BRow.blk = kl ∧ ∀ b ∈ x.2.2, b.Bd) rfl (by repeat (first | exact List.Sublist.refl _ | refine List.Sublist.cons _ ?_ | refine List.Sublist.trans ?_ (List.sublist_append_right _ _))) (fun w hw => by first | exact hkcall 0 _ _ _ w hw rfl | exact hkcall 1 _ _ _ w hw rfl) fun z hz => ?_; obtain ⟨na, nc, ks⟩ := z; simp only at hz ⊢)
      refine g_permH (H1 := Ent.box p3 [.string ByteArray.empty, .int .i64 0, .int .i64 0, .slice none 0 0] 35 :: Ent.box p2 [.string ByteArray.empty, .int .i64 0, .int .i64 0, .slice none 0 0] 35 :: Ent.vec oa o.length oc 3 1 (o.map intN) :: (fnE na nc ks ++ [Ent.box p1 [.string xn, .int .i64 (P : Int), .int .i64 (R : Int), .slice ba n bc] 35])) (List.perm_iff_count.2 fun e => by simp only [List.count_append, List.count_cons, List.count_nil]; omega) ?_
      refine h_storeAgg 5 (by decide +kernel) (by repeat (first | exact List.Sublist.refl _ | refine List.Sublist.cons _ ?_ | refine List.Sublist.trans ?_ (List.sublist_append_right _ _))) ?_
      refine h_end (by decide +kernel) ?_
      exact g_mem (p3, na, nc, ks) hz (by repeat (first | exact trivial | refine ⟨rfl, ?_⟩)) (.cons_cons _ (.cons_cons _ (.cons _ (List.sublist_append_left _ _))))
  obtain ⟨p3, na, nc, ks⟩ := x
  obtain ⟨hkb, hkd⟩ := hx
  simp only at hkb hkd ⊢
  obtain ⟨m, hm⟩ : ∃ m, m = ks.length := ⟨_, rfl⟩
  have hmk : kl.length = m := by rw [← hkb, List.length_map, hm]
  have hblocks : ∀ (X : List Ent) (w : World), Wd NoS w0 (X ++ fnE na nc ks) w → SlAt w (.slice na m nc) 6 kl BlockV := fun X w hw => by
    have := Wd.blocks (H := []) (ba := na) (bc := nc) (bs := ks) (by rw [List.append_nil]; exact hw.sub (List.sublist_append_right _ _)) (by omega) hkd
    rw [hkb, ← hm] at this
    exact this
  have harg : ∀ B ∈ kl, ∀ x ∈ B.list, x.args.length ≤ 1000 := fun B hB x hx => by
    rw [← hkb] at hB
    obtain ⟨c, hc, rfl⟩ := List.mem_map.1 hB
    obtain ⟨y, hy, rfl⟩ := List.mem_map.1 hx
    exact ((hkd c hc).ins y hy).2.1
  have hbd2 : ∀ b : BRow, b.blk ∈ kl → b.Bd := fun b hb => by
    rw [← hkb] at hb
    obtain ⟨c, hc, e⟩ := List.mem_map.1 hb
    exact BRow.Bd.of e.symm (hkd c hc)
  obtain ⟨L, hLD⟩ : ∃ L, L = metL P kl := ⟨_, rfl⟩
  have hLok : LOk R L := by
    rw [hLD]
    unfold metL seqL once
    rw [meets_app []]
    have h0 : meets [] (parL P) = parL P := once_self (parL_nodup P)
    rw [h0]
    refine (LOk.par (by omega)).meets fun r hr => ?_
    rcases List.mem_append.1 hr with hr | hr
    · obtain ⟨B, hB, hr⟩ := List.mem_flatMap.1 hr
      exact seq_bound hkf hB (.inl hr)
    · obtain ⟨B, hB, hr⟩ := List.mem_flatMap.1 hr
      exact seq_bound hkf hB (.inr hr)
  have hLl := hLok.len
  have hreg : ∀ B ∈ kl, (∀ r, r ∈ seqB B ∨ r ∈ seqP B → r ∈ L) ∧ ∀ x ∈ B.list, ∀ v : LVal, v = x.a ∨ v = x.b ∨ v ∈ x.args → ∀ r ∈ seqV v, r ∈ L := fun B hB => by
    have h1 : ∀ r, r ∈ seqB B ∨ r ∈ seqP B → r ∈ L := fun r hr => by
      rw [hLD]
      exact mem_metL.2 (.inr (hr.elim (fun h => .inl ⟨B, hB, h⟩) fun h => .inr ⟨B, hB, h⟩))
    refine ⟨h1, fun x hx v hv r hr => h1 r (.inl ?_)⟩
    obtain ⟨b, hb⟩ := List.getElem?_of_mem hB
    obtain ⟨fs, hfs⟩ := hkuse B hB x hx
    refine List.mem_append_right _ (List.mem_append_left _ (List.mem_flatMap.2 ⟨x, hx, ?_⟩))
    rw [seqI_eq hfs ((hkf.block b B hb).list x hx)]
    rcases hv with rfl | rfl | hv
    · exact List.mem_append_left _ hr
    · exact List.mem_append_right _ (List.mem_append_left _ hr)
    · exact List.mem_append_right _ (List.mem_append_right _ (List.mem_append_left _ (List.mem_flatMap.2 ⟨v, hv, hr⟩)))
  rw [← hm]
  repeat (first | refine g_op rfl ?_ | refine g_then ?_ | refine g_region ?_ | refine g_seq ?_)
  refine g_callE (val := fun x : Option Addr × Nat => .slice x.1 L.length x.2) (E := fun x => [ivE x.1 x.2 L]) (φ := fun _ => True) rfl (fun w hw => by
    rw [hLD]
    exact metR_c xn P R R kl na m nc (by omega) (by omega) hkf harg w (hblocks [Ent.box p3 [.string xn, .int .i64 (P : Int), .int .i64 (R : Int), .slice na m nc] 35, Ent.box p2 [.string ByteArray.empty, .int .i64 0, .int .i64 0, .slice none 0 0] 35] w hw) (by omega)) fun x _ => ?_
  obtain ⟨la, lc⟩ := x
  simp only [List.cons_append, List.nil_append]
  repeat (first | refine g_op rfl ?_ | refine g_then ?_ | refine g_nil ?_ | refine g_region ?_ | refine g_seq ?_)
  refine g_callE (val := fun x : Option Addr × Nat × List BRow => .agg #[.string xn, .int .i64 (P : Int), .int .i64 (R : Int), .slice x.1 x.2.2.length x.2.1]) (E := fun x => fnE x.1 x.2.1 x.2.2) (φ := fun x => x.2.2.map BRow.blk = kl.map (renB L) ∧ ∀ b ∈ x.2.2, b.Bd) rfl (fun w hw => renamedR_c xn P R kl (.slice na m nc) R (by omega) L la L.length lc hLok hreg w (hblocks [ivE la lc L, Ent.box p3 [.string xn, .int .i64 (P : Int), .int .i64 (R : Int), .slice na m nc] 35, Ent.box p2 [.string ByteArray.empty, .int .i64 0, .int .i64 0, .slice none 0 0] 35] w hw) (by omega) hbd2 (hw.intsAt (k := 0) rfl rfl (by omega) (hLok.ins (by omega)))) fun x hx => ?_
  obtain ⟨ga, gc, gs⟩ := x
  obtain ⟨hgb, hgd⟩ := hx
  simp only at hgb hgd ⊢
  refine g_permH (H1 := Ent.box p3 [.string xn, .int .i64 (P : Int), .int .i64 (R : Int), .slice na m nc] 35 :: Ent.box p2 [.string ByteArray.empty, .int .i64 0, .int .i64 0, .slice none 0 0] 35 :: (fnE ga gc gs ++ ivE la lc L :: fnE na nc ks)) (List.perm_iff_count.2 fun e => by simp only [List.count_append, List.count_cons, List.count_nil]; omega) ?_
  repeat (first | refine g_op rfl ?_ | refine g_then ?_ | refine g_nil ?_ | refine g_region ?_ | refine g_seq ?_ | refine g_store ?_ | refine g_storeAgg ?_ | refine g_ret ?_)
  have hkF : keptF ⟨xn, (P : Int), (R : Int), xb⟩ = kl := by rw [hklD, hoD]; rfl
  have hnF : namesF ⟨xn, (P : Int), (R : Int), xb⟩ = ⟨xn, (P : Int), (L.length : Int), kl.map (renB L)⟩ := by
    unfold namesF
    rw [hkF, hLD]
    simp only [Int.toNat_natCast]
  rw [hnF]
  refine g_retC rfl fun w hw => ⟨(ga, gc, gs), rfl, hw.sub ?_, hgb, hgd⟩
  exact .cons _ (.cons _ (List.sublist_append_left _ _))
end Go.Proofs.YtpadjpplidlfeaaGreatDoor


/- The law TidyNames: tidy.Names returns the unit whose functions the reference has named. -/
namespace Go.Proofs.YtpadjpplidlfeaaGreatDoor
open Go Go.RowKit
attribute [local irreducible] wpListIn Code.wpIn Exit.then Exit.inBlock bodyPost wpQuiet wpAnyIn wpAnyH bodyPostM oneH
set_option maxHeartbeats 4000000

theorem names_bad (u : LUnit) (hl : light u) (hbad : (checkL u).1 ≠ 0) (g fs : Value) (w0 : World) (hg : SlAt w0 g 3 u.globals GlobalV) (hf : SlAt w0 fs 4 u.funcs FuncV) (hways : CellsAt w0 0 0 waysC) :
    RetV Tryz.prog 8 [.agg #[g, fs]] w0 (.tuple #[.agg #[.slice none 0 0, .slice none 0 0], .agg #[.int .i64 (checkL u).1, .int .i64 (checkL u).2]]) := by
  have hg0 := hg
  have hf0 := hf
  obtain ⟨ga, gn, gc, gb, go, rfl, _⟩ := hg
  obtain ⟨fa, fn, fc, fb, fo, rfl, hfn, _⟩ := hf
  refine ret_enter Tryz.func8 rfl Tryz.ntmps8 rfl (Wd.nil NoS w0) ?_
  repeat (first | refine g_op rfl ?_ | refine g_then ?_ | refine g_nil ?_ | refine g_region ?_ | refine g_seq ?_ | refine g_box rfl fun _ _ => ?_ | refine g_alloc rfl fun _ _ => ?_)
  rename_i p1 _ p2 _ p3 _
  refine g_callV rfl (fun w hw => check_c u hl _ _ w (hg0.keep keeps_global hw.chg) (hf0.keep keeps_func hw.chg) (hways.keep hw.chg)) ?_
  repeat (first | refine g_op rfl ?_ | refine g_then ?_ | refine g_nil ?_ | refine g_region ?_ | refine g_seq ?_ | refine g_alloc rfl fun _ _ => ?_ | refine g_storeAgg ?_)
  rename_i p4 _
  refine g_cond (fun h1 => ?_) (fun h1 => ?_)
  · repeat (refine g_seq ?_)
    refine g_drawW [(2, .pointer (some ⟨p2, 0, none⟩)), (3, .pointer (some ⟨p3, 0, none⟩))] [Ent.box p3 [.int .i64 (checkL u).1, .int .i64 (checkL u).2] 28, Ent.box p2 [.slice none 0 0, .slice none 0 0] 25] mixed ?_ ?_
    · repeat' (first | refine g_any0 (by decide +kernel) ?_ | refine g_any (by decide +kernel) ?_ | refine any_nil | refine any_skip (by decide +kernel) ?_ | refine any_cons ?_ ?_ | refine g_op rfl ?_ | refine g_then ?_ | refine g_nil ?_ | refine g_storeAgg ?_)
      all_goals exact g_done (by repeat (first | exact trivial | refine ⟨rfl, ?_⟩)) (by simp)
    · repeat (first | refine g_then ?_ | refine g_ret ?_ | refine g_thenRet ?_)
      exact g_retCC rfl fun _ hw => ⟨rfl, hw.chg⟩
  · simp at h1
    omega
theorem namesEach_c (u : LUnit) (hl : light u) (hch : (checkL u).1 = 0) (g fs : Value) (w : World) (hg : SlAt w g 3 u.globals GlobalV) (hf : SlAt w fs 4 u.funcs FuncV) :
    Ret Tryz.prog 20 [.agg #[g, fs], .func (.func 21) #[] #[]] w (EachR u namesF w) :=
  each_c u (check_glim hch) ⟨check_few hl, check_lim hl hch⟩ _ _ w hg hf 21 [] [] namesF fun X hX => by
    obtain ⟨k, hk⟩ := List.getElem?_of_mem hX
    obtain ⟨R, hA⟩ := fnAll (check_zero.1 hch) hk
    have h1 := (hl.2 X hX).1
    have h2 := hA.par
    have h3 := hA.le
    exact namesOf_c X R hA (by omega) ⟨by omega, by omega⟩ w
theorem names_ok (u : LUnit) (hl : light u) (hch : (checkL u).1 = 0) (hN : ∀ X ∈ u.funcs, largeF (namesF X) = false) (g fs : Value) (w0 : World) (hg : SlAt w0 g 3 u.globals GlobalV) (hf : SlAt w0 fs 4 u.funcs FuncV) (hways : CellsAt w0 0 0 waysC) :
    Ret Tryz.prog 8 [.agg #[g, fs]] w0 fun v w' => ∃ x : (Option Addr × Nat) × (Option Addr × Nat) × (Nat → Prop), v = .tuple #[.agg #[.slice x.1.1 u.globals.length x.1.2, .slice x.2.1.1 u.funcs.length x.2.1.2], .agg #[.int .i64 0, .int .i64 0]] ∧ Wd NoS w0 [unitE (namesU u) (.slice x.1.1 u.globals.length x.1.2) (.slice x.2.1.1 u.funcs.length x.2.1.2) x.2.2] w' ∧ True := by
  have hg0 := hg
  have hf0 := hf
  obtain ⟨ga, gn, gc, gb, go, rfl, _⟩ := hg
  obtain ⟨fa, fn, fc, fb, fo, rfl, hfn, _⟩ := hf
  refine ret_enter Tryz.func8 rfl Tryz.ntmps8 rfl (Wd.nil NoS w0) ?_
  repeat (first | refine g_op rfl ?_ | refine g_then ?_ | refine g_nil ?_ | refine g_region ?_ | refine g_seq ?_ | refine g_box rfl fun _ _ => ?_ | refine g_alloc rfl fun _ _ => ?_)
  rename_i p1 _ p2 _ p3 _
  refine g_callV rfl (fun w hw => check_c u hl _ _ w (hg0.keep keeps_global hw.chg) (hf0.keep keeps_func hw.chg) (hways.keep hw.chg)) ?_
  rw [checkL_zero hch]
  repeat (first | refine g_op rfl ?_ | refine g_then ?_ | refine g_nil ?_ | refine g_region ?_ | refine g_seq ?_ | refine g_alloc rfl fun _ _ => ?_ | refine g_storeAgg ?_ | refine g_skip ?_ | refine g_condF ?_)
  rename_i p4 _
  refine g_callE (val := fun x : (Option Addr × Nat) × (Option Addr × Nat) × (Nat → Prop) => .tuple #[.agg #[.slice x.1.1 u.globals.length x.1.2, .slice x.2.1.1 u.funcs.length x.2.1.2], .agg #[.int .i64 0, .int .i64 0]]) (E := fun x => [unitE (namesU u) (.slice x.1.1 u.globals.length x.1.2) (.slice x.2.1.1 u.funcs.length x.2.1.2) x.2.2]) (φ := fun _ => True) rfl (fun w hw => (namesEach_c u hl hch _ _ w (hg0.keep keeps_global hw.chg) (hf0.keep keeps_func hw.chg)).mono fun v w' h => ?_) fun x _ => ?_
  · rcases h with ⟨j, Y, h1, h2, _⟩ | ⟨_, ga, fa, gc, fc, fp, rfl, hw⟩
    · rw [hN Y (List.mem_of_getElem? h1)] at h2
      cases h2
    · exact ⟨((ga, gc), (fa, fc), fp), rfl, hw, trivial⟩
  obtain ⟨⟨ya, yc⟩, ⟨za, zc⟩, fp⟩ := x
  simp only [List.cons_append, List.nil_append]
  repeat (first | refine g_op rfl ?_ | refine g_then ?_ | refine g_nil ?_ | refine g_storeAgg ?_ | refine g_ret ?_)
  refine g_retCC rfl fun w hw => ⟨((ya, yc), (za, zc), fp), rfl, hw.pick inferInstance, trivial⟩
theorem namesR_c (X : LFunc) (bs0 : Value) (w0 : World) (hbs : SlAt w0 bs0 6 X.blocks BlockV) (hlen : X.blocks.length ≤ 24) (hlim : FnLim X) (R : Nat) (hA : FnAll X R) :
    Ret Tryz.prog 12 [.agg #[.string X.name, .int .i64 X.params, .int .i64 X.regs, bs0]] w0 fun u w' => ∃ y : URow, u = .agg #[.string y.name, .int .i64 y.params, .int .i64 y.regs, .slice y.a y.bs.length y.c] ∧ Wd NoS w0 [uE y] w' ∧ (y.fn = namesF X ∧ y.bs.length ≤ 1000 ∧ ∀ b ∈ y.bs, b.Bd) := by
  obtain ⟨ba, bc, q, hq, hqm, hqs, hqa⟩ := blk_rows hbs
  refine (refNames_c X R hA hlim hlen bs0 w0 hbs fun b hb => ?_).mono fun u w' ⟨x, h1, h2, h3, h5⟩ => ⟨⟨(namesF X).name, (namesF X).params, (namesF X).regs, x.1, x.2.1, x.2.2⟩, h1, by
    have h6 : Wd NoS w0 (fnE x.1 x.2.1 x.2.2 ++ []) w' := by rw [List.append_nil]; exact h2
    exact h6.join, by unfold URow.fn; simp only [h3], by
    have h4 : x.2.2.length = (namesF X).blocks.length := by rw [← h3, List.length_map]
    have h6 : (namesF X).blocks.length = (orderL X.blocks).length := by unfold namesF keptF; simp only; rw [List.length_map, keptL_len]
    have h7 := postL_len hA.pos
    have h8 : (orderL X.blocks).length = (postL X.blocks).length := by unfold orderL; rw [List.length_reverse]
    simp only
    omega, h5⟩
  rw [← hqm] at hb
  obtain ⟨c, hc, e⟩ := List.mem_map.1 hb
  exact BRow.Bd.of e.symm (hlim.bd (by rw [← hqm]; exact List.mem_map.2 ⟨c, hc, rfl⟩) (hqa c hc))
theorem namesF_lim {R : Nat} {X : LFunc} (hl : X.blocks.length ≤ 24) (hlim : FnLim X) (hA : FnAll X R) : FnSmall (namesF X) := by
  have hk := orderK_ok hA.ok.good hA.pos
  have h7 := postL_len hA.pos
  have h8 : (orderL X.blocks).length = (postL X.blocks).length := by unfold orderL; rw [List.length_reverse]
  refine ⟨by unfold namesF keptF; simp only; rw [List.length_map, keptL_len]; omega, fun C hC => ?_⟩
  unfold namesF keptF keptL at hC
  simp only at hC
  obtain ⟨D, hD, rfl⟩ := List.mem_map.1 hC
  obtain ⟨b, hb, rfl⟩ := List.mem_map.1 hD
  have h9 := hlim.each (blkAt X.blocks b) (List.mem_of_getElem? (get_blkAt (hk.lt b hb)))
  unfold renB keepB
  simp only [List.length_map]
  exact ⟨h9.1, h9.2.2.1⟩
theorem names_told (u : LUnit) (hl : light u) (hu : Whole u) (hch : (checkL u).1 = 0) (g fs : Value) (w0 : World) (hg : SlAt w0 g 3 u.globals GlobalV) (hf : SlAt w0 fs 4 u.funcs FuncV) (hways : CellsAt w0 0 0 waysC) :
    Ret Tryz.prog 8 [.agg #[g, fs]] w0 fun v w' => ∃ x : (Option Addr × Nat × Nat) × (Option Addr × Nat × Nat) × (Int × Int) × Ent, v = .tuple #[.agg #[.slice x.1.1 x.1.2.1 x.1.2.2, .slice x.2.1.1 x.2.1.2.1 x.2.1.2.2], .agg #[.int .i64 x.2.2.1.1, .int .i64 x.2.2.1.2]] ∧ Wd NoS w0 [x.2.2.2] w' ∧
      (inI x.2.2.1.2 ∧ ∀ w, x.2.2.2.ok w → Told (namesU u) w (.slice x.1.1 x.1.2.1 x.1.2.2) (.slice x.2.1.1 x.2.1.2.1 x.2.1.2.2) x.2.2.1.1 x.2.2.1.2) := by
  have hno := whole_large (namesU_whole hu)
  refine (names_ok u hl hch (fun X hX => hno _ (List.mem_map.2 ⟨X, hX, rfl⟩)) g fs w0 hg hf hways).mono fun v w' ⟨x, h1, h2, _⟩ => ⟨((x.1.1, u.globals.length, x.1.2), (x.2.1.1, u.funcs.length, x.2.1.2), (0, 0), unitE (namesU u) (.slice x.1.1 u.globals.length x.1.2) (.slice x.2.1.1 u.funcs.length x.2.1.2) x.2.2), h1, h2, ⟨by simp, by simp⟩, fun w hw => .inr ⟨hno, rfl, rfl, hw.1, hw.2⟩⟩
theorem tidyNamesLaw_c (u : LUnit) (g fs : Value) (w0 : World) (hg : SlAt w0 g 3 u.globals GlobalV) (hf : SlAt w0 fs 4 u.funcs FuncV) (hways : CellsAt w0 0 0 waysC) :
    RetV Tryz.prog 3 [.agg #[g, fs]] w0 (.bool true) := by
  classical
  have hg0 := hg
  have hf0 := hf
  obtain ⟨ga, gn, gc, gb, go, rfl, hgn, _⟩ := hg
  obtain ⟨fa, fn, fc, fb, fo, rfl, hfn, hfnc, hfnb, hfc, hfa, hfel⟩ := hf
  refine ret_enter Tryz.func3 rfl Tryz.ntmps3 rfl (Wd.nil NoS w0) ?_
  repeat (first | refine g_op rfl ?_ | refine g_then ?_ | refine g_nil ?_ | refine g_region ?_ | refine g_seq ?_ | refine g_box rfl fun _ _ => ?_)
  rename_i p1 _
  refine g_callE (val := fun b : Bool => .bool b) (E := fun _ => []) (φ := fun b => b = false → slim u) rfl (fun w hw => heavyS_c u _ _ w (hf0.keep keeps_func hw.chg) ⟨_, _, _, rfl⟩) fun b hb => ?_
  simp only [List.nil_append]
  cases b
  case true =>
    repeat (first | refine g_then ?_ | refine g_nil ?_ | refine g_region ?_ | refine g_seq ?_ | refine g_opS rfl ?_ | refine g_condT ?_ | refine g_ret ?_ | refine g_thenRet ?_)
    exact g_retV rfl rfl
  have hsl := hb rfl
  have hl := hsl.light
  repeat (first | refine g_op rfl ?_ | refine g_then ?_ | refine g_nil ?_ | refine g_region ?_ | refine g_seq ?_ | refine g_skip ?_ | refine g_condF ?_)
  by_cases hbad : (checkL u).1 ≠ 0
  · refine g_callV rfl (fun w hw => names_bad u hl hbad _ _ w (hg0.keep keeps_global hw.chg) (hf0.keep keeps_func hw.chg) (hways.keep hw.chg)) ?_
    repeat (first | refine g_op rfl ?_ | refine g_then ?_ | refine g_nil ?_ | refine g_region ?_ | refine g_seq ?_ | refine g_alloc rfl fun _ _ => ?_ | refine g_storeAgg ?_)
    refine g_callV rfl (fun w hw => check_c u hl _ _ w (hg0.keep keeps_global hw.chg) (hf0.keep keeps_func hw.chg) (hways.keep hw.chg)) ?_
    repeat (first | refine g_op rfl ?_ | refine g_then ?_ | refine g_nil ?_ | refine g_region ?_ | refine g_seq ?_ | refine g_alloc rfl fun _ _ => ?_ | refine g_storeAgg ?_)
    refine g_cond (fun h1 => ?_) (fun h1 => ?_)
    · repeat (first | refine g_op rfl ?_ | refine g_region ?_ | refine g_seq ?_)
      rw [show (decide ((checkL u).1 = (checkL u).1) && decide ((checkL u).2 = (checkL u).2)) = true by simp]
      repeat (first | refine g_op rfl ?_ | refine g_open ?_)
      refine g_callV rfl (fun w hw => noneE_c w) ?_
      repeat (first | refine g_op rfl ?_ | refine g_then ?_ | refine g_nil ?_ | refine g_opS rfl ?_ | refine g_ret ?_ | refine g_thenRet ?_)
      exact g_retV rfl rfl
    · exact absurd h1 (by simp [hbad])
  have hch : (checkL u).1 = 0 := by simpa using hbad
  have hok := check_zero.1 hch
  have hu : Whole u := ⟨hok, nums_of hf0, gnums_of hg0⟩
  refine g_callE (val := fun x : (Option Addr × Nat × Nat) × (Option Addr × Nat × Nat) × (Int × Int) × Ent => .tuple #[.agg #[.slice x.1.1 x.1.2.1 x.1.2.2, .slice x.2.1.1 x.2.1.2.1 x.2.1.2.2], .agg #[.int .i64 x.2.2.1.1, .int .i64 x.2.2.1.2]]) (E := fun x => [x.2.2.2]) (φ := fun x => inI x.2.2.1.2 ∧ ∀ w, x.2.2.2.ok w → Told (namesU u) w (.slice x.1.1 x.1.2.1 x.1.2.2) (.slice x.2.1.1 x.2.1.2.1 x.2.1.2.2) x.2.2.1.1 x.2.2.1.2) rfl (fun w hw => names_told u hl hu hch _ _ w (hg0.keep keeps_global hw.chg) (hf0.keep keeps_func hw.chg) (hways.keep hw.chg)) fun x hx => ?_
  obtain ⟨⟨ya, yn, yc⟩, ⟨za, zn, zc⟩, ⟨vc, vk⟩, UE⟩ := x
  obtain ⟨hvk, htold⟩ := hx
  simp only at hvk htold
  simp only [List.cons_append, List.nil_append]
  repeat (first | refine g_op rfl ?_ | refine g_then ?_ | refine g_nil ?_ | refine g_region ?_ | refine g_seq ?_ | refine g_alloc rfl fun _ _ => ?_ | refine g_storeAgg ?_)
  rename_i p3 _ p4 _
  refine g_callV rfl (fun w hw => check_c u hl _ _ w (hg0.keep keeps_global hw.chg) (hf0.keep keeps_func hw.chg) (hways.keep hw.chg)) ?_
  rw [checkL_zero hch]
  repeat (first | refine g_op rfl ?_ | refine g_then ?_ | refine g_nil ?_ | refine g_region ?_ | refine g_seq ?_ | refine g_alloc rfl fun _ _ => ?_ | refine g_storeAgg ?_ | refine g_skip ?_ | refine g_condF ?_)
  rename_i p5 _
  refine g_callE (val := UMem.val) (E := UMem.ents) (φ := fun m => m.unit = u ∧ m.Bd) rfl (fun w hw => unitR_c u (check_glim hch) (check_few hl) (check_lim hl hch) _ _ w (hg0.keep keeps_global hw.chg) (hf0.keep keeps_func hw.chg)) fun m ⟨hmu, hmb⟩ => ?_
  unfold UMem.val
  repeat (first | refine g_op rfl ?_ | refine g_then ?_ | refine g_nil ?_ | refine g_region ?_ | refine g_seq ?_ | refine g_alloc rfl fun _ _ => ?_ | refine g_storeAgg ?_ | refine g_block ?_)
  rename_i p6 _
  refine g_fix (L' := [(7, .int .i64 0), (6, .pointer (some ⟨p6, 0, none⟩)), (4, .pointer (some ⟨p4, 0, none⟩)), (3, .pointer (some ⟨p3, 0, none⟩)), (1, .pointer (some ⟨p1, 0, none⟩))]) (by repeat (first | exact trivial | refine ⟨rfl, ?_⟩)) (List.Sublist.refl _) ?_
  have hmf : m.fs.length = fn := by rw [hfn, ← hmu]; unfold UMem.unit; simp only [List.length_map]
  refine g_wd (H' := Ent.box p6 [.slice m.ga m.gs.length m.gc, .slice m.fa fn m.fc] 25 :: Ent.box p1 [.slice ga gn gc, .slice fa fn fc] 25 :: Ent.box p3 [.slice ya yn yc, .slice za zn zc] 25 :: Ent.box p4 [.int .i64 vc, .int .i64 vk] 28 :: UE :: (Ent.vec m.fa fn m.fc 35 4 (m.fs.flatMap uC) :: gvE m :: (m.gs.map gloE ++ m.fs.map uE))) (fun w hw => ?_) ?_
  · refine hw.pick ⟨[Ent.box p5 [.int .i64 (0, 0).1, .int .i64 (0, 0).2] 28], ?_⟩
    unfold UMem.ents gvE
    rw [hmf]
    classical
    refine List.perm_iff_count.2 fun e => ?_
    simp only [List.count_append, List.count_cons, List.count_nil]
    omega
  skip
  skip
  refine g_loop (fun x : Nat × List URow => x.1 ≤ fn ∧ x.2.length = fn ∧ x.2.map URow.fn = (u.funcs.take x.1).map (namesF) ++ u.funcs.drop x.1 ∧ ∀ y ∈ x.2, (inI y.params ∧ inI y.regs) ∧ (∀ b ∈ y.bs, b.Bd) ∧ y.bs.length ≤ 1000) (fun x => [(7, .int .i64 x.1), (6, .pointer (some ⟨p6, 0, none⟩)), (4, .pointer (some ⟨p4, 0, none⟩)), (3, .pointer (some ⟨p3, 0, none⟩)), (1, .pointer (some ⟨p1, 0, none⟩))]) (fun x => Ent.box p6 [.slice m.ga m.gs.length m.gc, .slice m.fa fn m.fc] 25 :: Ent.box p1 [.slice ga gn gc, .slice fa fn fc] 25 :: Ent.box p3 [.slice ya yn yc, .slice za zn zc] 25 :: Ent.box p4 [.int .i64 vc, .int .i64 vk] 28 :: UE :: (Ent.vec m.fa fn m.fc 35 4 (x.2.flatMap uC) :: gvE m :: (m.gs.map gloE ++ x.2.map uE))) (fun x => fn - x.1) (0, m.fs) ⟨Nat.zero_le _, hmf, ?_, fun y hy => ?_⟩ (g_done (by repeat (first | exact trivial | refine ⟨rfl, ?_⟩)) (List.Sublist.refl _)) fun x ⟨hi, hxl, hxm, hxb⟩ => ?_
  · rw [List.take_zero, List.drop_zero, List.map_nil, List.nil_append, ← hmu]
    rfl
  · have h2 := hmb.func y hy
    refine ⟨h2.1, h2.2, ?_⟩
    have h3 : y.fn ∈ u.funcs := by rw [← hmu]; exact List.mem_map.2 ⟨y, hy, rfl⟩
    have := (check_lim hl hch _ h3).n
    simpa [URow.fn] using this
  obtain ⟨k, ys⟩ := x
  simp only at hi hxl hxm hxb ⊢
  repeat (first | refine g_op rfl ?_ | refine g_then ?_ | refine g_nil ?_ | refine g_region ?_ | refine g_seq ?_)
  refine g_cond (fun h1 => ?_) (fun h1 => ?_)
  · have hlt : k < fn := by simpa using h1
    obtain ⟨X, hX⟩ : ∃ X, u.funcs[k]? = some X := ⟨_, List.getElem?_eq_getElem (by omega)⟩
    have hXm := List.mem_of_getElem? hX
    obtain ⟨y0, hy0⟩ : ∃ y0, ys[k]? = some y0 := ⟨_, List.getElem?_eq_getElem (by omega)⟩
    have had : AddrIs fa fb fo := ⟨hfa (ne_of_get hX)⟩
    have hli : LtIs k fn := ⟨hlt⟩
    obtain ⟨_, hcs, bv, rfl, hpi, hri, hbv⟩ := hfel k X hX
    have hci : CellsIs w0 fb (fo + k * 4) _ := ⟨hcs⟩
    have hbv0 := hbv
    obtain ⟨ba, bn, bc, _, _, rfl, hbn, _⟩ := hbv
    obtain ⟨R, hAll⟩ := fnAll hok hX
    have hlim := check_lim hl hch X hXm
    have hsm := (check_small hok hXm).2.2.1
    refine g_vec 5 rfl (by omega) fun vb vo hva => ?_
    rw [hva]
    repeat (first | refine g_then ?_ | refine g_seq ?_ | refine g_block ?_ | refine g_skip ?_)
    refine g_drawX [Ent.box p6 [.slice m.ga m.gs.length m.gc, .slice (some ⟨vb, vo, none⟩) fn m.fc] 25, Ent.box p1 [.slice ga gn gc, .slice fa fn fc] 25] (fun y : URow => y.fn = namesF X ∧ y.bs.length ≤ 1000 ∧ ∀ b ∈ y.bs, b.Bd) (fun _ => [(7, .int .i64 k), (6, .pointer (some ⟨p6, 0, none⟩)), (4, .pointer (some ⟨p4, 0, none⟩)), (3, .pointer (some ⟨p3, 0, none⟩)), (1, .pointer (some ⟨p1, 0, none⟩))]) (fun y => uE y :: Ent.box p6 [.slice m.ga m.gs.length m.gc, .slice (some ⟨vb, vo, none⟩) fn m.fc] 25 :: Ent.box p1 [.slice ga gn gc, .slice fa fn fc] 25 :: Ent.box p3 [.slice ya yn yc, .slice za zn zc] 25 :: Ent.box p4 [.int .i64 vc, .int .i64 vk] 28 :: UE :: (Ent.vec (some ⟨vb, vo, none⟩) fn m.fc 35 4 ((ys.set k y).flatMap uC) :: gvE m :: (m.gs.map gloE ++ ys.map uE))) mixed (by first | exact .cons_cons _ (.cons_cons _ (List.nil_sublist _)) | exact .cons _ (.cons_cons _ (.cons_cons _ (List.nil_sublist _)))) ?_ fun y hy => ?_
    · skip
      refine h_take 0 rfl (by decide +kernel) (by first | exact .cons_cons _ (.cons_cons _ (List.nil_sublist _)) | exact .cons _ (.cons_cons _ (.cons_cons _ (List.nil_sublist _)))) ?_
      refine h_take 1 rfl (by decide +kernel) (by first | exact .cons_cons _ (.cons_cons _ (List.nil_sublist _)) | exact .cons _ (.cons_cons _ (.cons_cons _ (List.nil_sublist _)))) ?_
      refine h_take 2 rfl (by decide +kernel) (by first | exact .cons_cons _ (.cons_cons _ (List.nil_sublist _)) | exact .cons _ (.cons_cons _ (.cons_cons _ (List.nil_sublist _)))) ?_
      refine h_take 3 rfl (by decide +kernel) (by first | exact .cons_cons _ (.cons_cons _ (List.nil_sublist _)) | exact .cons _ (.cons_cons _ (.cons_cons _ (List.nil_sublist _)))) ?_
      refine h_take 4 rfl (by decide +kernel) (by first | exact .cons_cons _ (.cons_cons _ (List.nil_sublist _)) | exact .cons _ (.cons_cons _ (.cons_cons _ (List.nil_sublist _)))) ?_
      refine h_take 5 rfl (by decide +kernel) (by first | exact .cons_cons _ (.cons_cons _ (List.nil_sublist _)) | exact .cons _ (.cons_cons _ (.cons_cons _ (List.nil_sublist _)))) ?_
      refine h_take 6 rfl (by decide +kernel) (by first | exact .cons_cons _ (.cons_cons _ (List.nil_sublist _)) | exact .cons _ (.cons_cons _ (.cons_cons _ (List.nil_sublist _)))) ?_
      refine h_take 7 rfl (by decide +kernel) (by first | exact .cons_cons _ (.cons_cons _ (List.nil_sublist _)) | exact .cons _ (.cons_cons _ (.cons_cons _ (List.nil_sublist _)))) ?_
      refine h_callE 8 (val := fun y : URow => .agg #[.string y.name, .int .i64 y.params, .int .i64 y.regs, .slice y.a y.bs.length y.c]) (E := fun y => [uE y]) (φ := fun y => y.fn = namesF X ∧ y.bs.length ≤ 1000 ∧ ∀ b ∈ y.bs, b.Bd) rfl (by decide +kernel) (by first | exact .cons_cons _ (.cons_cons _ (List.nil_sublist _)) | exact .cons _ (.cons_cons _ (.cons_cons _ (List.nil_sublist _)))) (fun w hw => namesR_c X _ w (hbv0.keep keeps_block hw.chg) (hsl.2 X hXm).1 hlim R hAll) fun y hy => ?_
      simp only [List.cons_append, List.nil_append]
      refine h_take 9 rfl (by decide +kernel) (by first | exact .cons_cons _ (.cons_cons _ (List.nil_sublist _)) | exact .cons _ (.cons_cons _ (.cons_cons _ (List.nil_sublist _)))) ?_
      refine h_one 10 (by decide +kernel) ?_
      refine o_storeVA 10 6 (j := k * 4) rfl rfl (by rw [flat_len uC_len]; omega) (by first | exact .cons_cons _ (.cons_cons _ (List.nil_sublist _)) | exact .cons _ (.cons_cons _ (.cons_cons _ (List.nil_sublist _)))) ?_
      rw [show [Value.string y.name, .int .i64 y.params, .int .i64 y.regs, .slice y.a y.bs.length y.c] = uC y from rfl, flat_put uC_len (by omega)]
      simp only [List.set_cons_zero, List.set_cons_succ]
      refine h_end (by decide +kernel) ?_
      exact g_mem y hy (by repeat (first | exact trivial | refine ⟨rfl, ?_⟩)) (List.Sublist.refl _)
    · obtain ⟨hy1, hy2, hy3⟩ := hy
      refine g_wd (H' := Ent.box p6 [.slice m.ga m.gs.length m.gc, .slice (some ⟨vb, vo, none⟩) fn m.fc] 25 :: Ent.box p1 [.slice ga gn gc, .slice fa fn fc] 25 :: Ent.box p3 [.slice ya yn yc, .slice za zn zc] 25 :: Ent.box p4 [.int .i64 vc, .int .i64 vk] 28 :: UE :: (Ent.vec (some ⟨vb, vo, none⟩) fn m.fc 35 4 ((ys.set k y).flatMap uC) :: gvE m :: (m.gs.map gloE ++ (ys.set k y).map uE))) (fun w hw => ?_) ?_
      · refine hw.pick ⟨[uE y0], ?_⟩
        have h2 := map_pull uE hy0
        have h3 := map_pull uE (l := ys.set k y) (k := k) (x := y) (List.getElem?_set_self (by omega))
        rw [List.eraseIdx_set_eq] at h3
        classical
        refine List.perm_iff_count.2 fun e => ?_
        have h4 := List.perm_iff_count.1 h2 e
        have h5 := List.perm_iff_count.1 h3 e
        simp only [List.count_append, List.count_cons, List.count_nil] at h4 h5 ⊢
        omega
      repeat (first | refine g_op rfl ?_ | refine g_then ?_ | refine g_nil ?_ | refine g_region ?_ | refine g_opS rfl ?_ | refine g_inBlock ?_ | refine g_add rfl (by omega) (by omega) ?_)
      refine g_next (k + 1, ys.set k y) ⟨hlt, by simp only; rw [List.length_set]; exact hxl, ?_, fun z hz => ?_⟩ (by simp only; omega) ?_ ?_
      · simp only
        rw [List.map_set, hxm, hy1, set_mid (by rw [List.length_map, List.length_take]; omega) (by omega), List.take_add_one, hX, List.map_append]
        rfl
      · rcases List.mem_or_eq_of_mem_set hz with hz | rfl
        · exact hxb z hz
        · have h6 : z.params = X.params := congrArg LFunc.params hy1
          have h7 : z.regs = ((metL X.params.toNat (keptF X)).length : Int) := congrArg LFunc.regs hy1
          have h8 := (names_turn X R hAll).2.1
          have h9 := hAll.le
          rw [h6, h7]
          exact ⟨⟨hpi, ⟨by omega, by omega⟩⟩, hy3, by omega⟩
      · exact (by repeat (first | exact trivial | refine ⟨rfl, ?_⟩))
      · exact List.Sublist.refl _
  · obtain rfl : fn = k := by have := h1; simp at this; omega
    have hfin : (UMem.unit { m with fs := ys }).funcs = (namesU u).funcs := by
      unfold UMem.unit namesU
      simp only
      rw [hxm, hfn, List.take_length, List.drop_length, List.append_nil]
    have hfing : (UMem.unit { m with fs := ys }).globals = (namesU u).globals := by
      unfold namesU
      simp only
      rw [← hmu]
      rfl
    have hglen : m.gs.length = u.globals.length := by rw [← hmu]; unfold UMem.unit; simp only [List.length_map]
    have hms : ∀ w, Wd NoS w0 (Ent.box p6 [.slice m.ga m.gs.length m.gc, .slice m.fa fn m.fc] 25 :: Ent.box p1 [.slice ga gn gc, .slice fa fn fc] 25 :: Ent.box p3 [.slice ya yn yc, .slice za zn zc] 25 :: Ent.box p4 [.int .i64 vc, .int .i64 vk] 28 :: UE :: (Ent.vec m.fa fn m.fc 35 4 (ys.flatMap uC) :: gvE m :: (m.gs.map gloE ++ ys.map uE))) w → SlAt w (.slice m.ga m.gs.length m.gc) 3 (namesU u).globals GlobalV ∧ SlAt w (.slice m.fa fn m.fc) 4 (namesU u).funcs FuncV := fun w hw => by
      have h2 : Wd NoS w0 ((UMem.ents { m with fs := ys }) ++ []) w := by
        rw [List.append_nil]
        unfold UMem.ents
        simp only
        rw [hxl]
        exact hw.sub (.cons _ (.cons _ (.cons _ (.cons _ (.cons _ (List.Sublist.refl _))))))
      have h3 := UMem.sl (m := { m with fs := ys }) ⟨hmb.glob, fun y hy => ⟨(hxb y hy).1, (hxb y hy).2.1⟩⟩ ⟨by have := hok.globs; simp only; omega, by have := hl.1; simp only; omega, fun y hy => (hxb y hy).2.2⟩ h2
      rw [hfin, hfing] at h3
      simp only [hxl] at h3
      exact h3
    repeat (first | refine g_op rfl ?_ | refine g_then ?_ | refine g_region ?_ | refine g_seq ?_ | refine g_exit ?_ | refine g_thenExit ?_ | refine g_exitHere ?_)
    refine g_callV rfl (fun w hw => given_c _ _ _ _ vc vk _ _ (namesU u) w (hms w hw).1 (hms w hw).2 (fun X hX => ?_) hvk (htold w (hw.get (k := 4) rfl))) ?_
    · unfold namesU at hX
      obtain ⟨Z, hZ, rfl⟩ := List.mem_map.1 hX
      obtain ⟨j, hj⟩ := List.getElem?_of_mem hZ
      obtain ⟨R, hAll⟩ := fnAll hok hj
      exact namesF_lim (hsl.2 Z hZ).1 (check_lim hl hch Z hZ) hAll
    repeat (first | refine g_op rfl ?_ | refine g_then ?_ | refine g_nil ?_ | refine g_ret ?_)
    exact g_retV rfl rfl
end Go.Proofs.YtpadjpplidlfeaaGreatDoor

