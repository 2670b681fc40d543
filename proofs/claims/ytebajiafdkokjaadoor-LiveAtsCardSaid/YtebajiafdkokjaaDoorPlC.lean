/- Texts joined: CheckF Check Ask Reach GraphA GraphB Parts Back Range Dfs Sure SureA. -/
import Derived.LoopIn
import Derived.LoopNIn
import Derived.OwnWalkIn
import Derived.RangeFuncBound
import Derived.RangeFuncLeaves
import Derived.RangeFuncNested
import Derived.Shelf.Abstract
import Derived.TacticsInMore
import Derived.Test.YtebajiafdkokjaaDoorChecked
import Derived.WalkKit
import Derived.Test.YtebajiafdkokjaaDoorPlB
/- The checker's body. What it returns. -/
namespace Go.Proofs.YtebajiafdkokjaaDoor
open Go Go.RowKit
attribute [local irreducible] wpListIn Code.wpIn Exit.then Exit.inBlock bodyPost wpQuiet wpAnyIn
set_option maxHeartbeats 2000000

theorem aheadTo_length (bs : List LBlock) : ∀ i, (aheadTo bs i).length = bs.length
  | 0 => by simp [aheadTo]
  | i + 1 => by
    have hf : ∀ (l : List Int) (rows : List (List Int)), (l.foldl (aheadIn i) rows).length = rows.length := by
      intro l
      induction l with
      | nil => intro rows; rfl
      | cons t l ih => intro rows; rw [List.foldl_cons, ih]; simp [aheadIn]
    rw [aheadTo, hf, aheadTo_length bs i]
theorem body_c (g fs ah : Value) (fl : List LFunc) (hfl : fl.length ≤ 100) (f : LFunc) (hf : lightF f) (hr : 0 ≤ f.regs ∧ f.regs ≤ 100) (bs : Value) (w0 : World) (hfs : SlAt w0 fs 4 fl FuncV) (hbs : SlAt w0 bs 6 f.blocks BlockV) (hways : CellsAt w0 0 0 waysC) (hah : ah = .slice none 0 0) :
    RetV Tryd.prog 61 [.agg #[g, fs, .string f.name, .int .i64 f.params, .int .i64 f.regs, bs, ah]] w0 (.int .i64 (bodyErr fl f)) := by
  subst hah
  have hbs0 := hbs
  obtain ⟨ba, n, bc, bb, bo', rfl, hn, hnc, hnb, hbc, hba, hel⟩ := hbs
  refine ret_enter Tryd.func61 rfl Tryd.ntmps61 rfl (Wd.nil NoS w0) ?_
  have h24 := hf.1
  repeat (first | refine g_op rfl ?_ | refine g_then ?_ | refine g_nil ?_ | refine g_region ?_ | refine g_seq ?_ | refine g_box rfl fun _ _ => ?_ | refine g_block ?_)
  rename_i p1 _
  refine g_loop (fun (i : Nat) => i ≤ n ∧ ∀ j, j < i → at0 f.blocks (endErr f.blocks.length f.regs) j = 0) (fun i => [(18, .int .i64 i), (16, .slice ba n bc), (17, .int .i64 n), (1, .pointer (some ⟨p1, 0, none⟩))]) (fun _ => [Ent.box p1 [g, fs, .string f.name, .int .i64 f.params, .int .i64 f.regs, .slice ba n bc, .slice none 0 0] 87]) (fun i => n - i) 0 ⟨Nat.zero_le _, by simp⟩ (g_done (by repeat (first | exact trivial | refine ⟨rfl, ?_⟩)) (by simp)) fun i ⟨hi, hall⟩ => ?_
  repeat (first | refine g_op rfl ?_ | refine g_then ?_ | refine g_nil ?_ | refine g_region ?_ | refine g_seq ?_)
  refine g_cond (fun h1 => ?_) (fun h1 => ?_)
  · have hlt : i < n := by simpa using h1
    obtain ⟨B, hB⟩ := get_lt hn hlt
    have had : AddrIs ba bb bo' := ⟨hba (ne_of_get hB)⟩
    have hli : LtIs i n := ⟨hlt⟩
    obtain ⟨cs, hcs, pv, lv, tv, rfl, _, _, hphis, hlist, ht⟩ := hel i B hB
    obtain ⟨pa', pn, pc, _, _, rfl, hpn, _, hpnb, _⟩ := hphis
    obtain ⟨la, ln, lc, _, _, rfl, hln, _, hlnb, _⟩ := hlist
    have ht0 := ht
    obtain ⟨ta, tn, tc, tb, to', rfl, htn, htnc, htnb, htc, hta, htel⟩ := ht
    have hci : CellsIs w0 bb (bo' + i * 6) _ := ⟨hcs⟩
    have hat : at0 f.blocks (endErr f.blocks.length f.regs) i = endE n f.regs B.kind B.on B.to := by simp [at0, hB, endErr, hn]
    repeat (first | refine g_op rfl ?_ | refine g_then ?_ | refine g_nil ?_ | refine g_region ?_ | refine g_seq ?_ | refine g_alloc rfl fun _ _ => ?_ | refine g_storeAgg ?_ | refine g_block ?_ | refine g_skip ?_)
    refine g_callV rfl (fun w hw => end_c g fs _ _ _ n bc ba (by omega) f.regs hr B.kind B.on B.to _ w (ht0.keep keeps_int hw.chg) (hways.keep hw.chg)) ?_
    repeat (first | refine g_op rfl ?_ | refine g_then ?_ | refine g_nil ?_ | refine g_region ?_ | refine g_seq ?_)
    refine g_cond (fun h2 => ?_) (fun h2 => ?_)
    · repeat (first | refine g_op rfl ?_ | refine g_then ?_ | refine g_nil ?_ | refine g_region ?_ | refine g_seq ?_ | refine g_ret ?_ | refine g_thenRet ?_ | refine g_blockRet ?_)
      refine g_retV rfl ?_
      have h2' : endE n f.regs B.kind B.on B.to ≠ 0 := by simpa using h2
      rw [bodyErr, firstI_hit hall (hn ▸ hlt) (by rw [hat]; exact h2'), if_pos (by rw [hat]; exact h2'), hat]
    · repeat (first | refine g_then ?_ | refine g_nil ?_ | refine g_region ?_ | refine g_opS rfl ?_ | refine g_inBlock ?_ | refine g_skip ?_ | refine g_add rfl (by omega) (by omega) ?_)
      refine g_next (i + 1) ⟨hlt, fun j hj => ?_⟩ (by omega) (by repeat (first | exact trivial | refine ⟨rfl, ?_⟩)) (List.Sublist.cons _ (List.Sublist.refl _))
      by_cases hji : j = i
      · subst hji; rw [hat]; simpa using h2
      · exact hall j (by omega)
  have hge : i = n := by have := h1; simp at this; omega
  rw [hge] at hall
  have hgo : bodyErr fl f = (firstI (blockErr fl f) f.blocks.length).1 := by rw [bodyErr, ← hn, firstI_none (hn ▸ hall)]; rfl
  rw [hgo]
  have hto : ∀ b ∈ f.blocks, toOk f.blocks.length b.to := by
    intro b hb
    obtain ⟨j, hj⟩ := List.getElem?_of_mem hb
    have hjl : j < n := by rw [hn]; exact (List.getElem?_eq_some_iff.1 hj).1
    have := hall j hjl
    simp only [at0, hj] at this
    exact endE_ok this
  repeat (first | refine g_op rfl ?_ | refine g_then ?_ | refine g_region ?_ | refine g_seq ?_ | refine g_exit ?_ | refine g_thenExit ?_ | refine g_exitHere ?_)
  refine g_callE (val := fun x : (Option Addr × Nat × Nat) × (Nat → Prop) => .slice x.1.1 x.1.2.1 x.1.2.2) (E := fun x => [⟨x.2, fun w => SlAt w (.slice x.1.1 x.1.2.1 x.1.2.2) 1 (aheadL f.blocks) RowV⟩]) (φ := fun _ => True) rfl (fun w hw => ahead_c _ _ _ f.blocks _ w (hbs0.keep keeps_block hw.chg) (by omega) hto) fun x _ => ?_
  obtain ⟨⟨xa, xn, xc⟩, fp⟩ := x
  simp only [List.cons_append, List.nil_append]
  repeat (first | refine g_op rfl ?_ | refine g_then ?_ | refine g_nil ?_ | refine g_region ?_ | refine g_seq ?_ | refine g_store ?_ | refine g_block ?_)
  refine g_loop (fun (i : Nat) => i ≤ n ∧ ∀ j, j < i → blockErr fl f j = 0) (fun i => [(38, .int .i64 i), (36, .slice ba n bc), (37, .int .i64 n), (1, .pointer (some ⟨p1, 0, none⟩))]) (fun _ => [⟨fp, fun w => SlAt w (.slice xa xn xc) 1 (aheadL f.blocks) RowV⟩, Ent.box p1 [g, fs, .string f.name, .int .i64 f.params, .int .i64 f.regs, .slice ba n bc, .slice xa xn xc] 87]) (fun i => n - i) 0 ⟨Nat.zero_le _, by simp⟩ (g_done (by repeat (first | exact trivial | refine ⟨rfl, ?_⟩)) (by simp)) fun i ⟨hi, hall2⟩ => ?_
  repeat (first | refine g_op rfl ?_ | refine g_then ?_ | refine g_nil ?_ | refine g_region ?_ | refine g_seq ?_)
  refine g_cond (fun h1 => ?_) (fun h1 => ?_)
  · have hlt : i < n := by simpa using h1
    obtain ⟨B, hB⟩ := get_lt hn hlt
    have had : AddrIs ba bb bo' := ⟨hba (ne_of_get hB)⟩
    have hli : LtIs i n := ⟨hlt⟩
    obtain ⟨cs, hcs, pv, lv, tv, rfl, _, _, hphis, hlist, ht⟩ := hel i B hB
    obtain ⟨pa', pn, pc, pb, po, rfl, hpn, _, hpnb, hpc, hpa, hpel⟩ := hphis
    obtain ⟨la, ln, lc, lb, lo, rfl, hln, _, hlnb, hlc, hla, hlel⟩ := hlist
    obtain ⟨ta, tn, tc, tb, to', rfl, htn, htnc, htnb, htc, hta, htel⟩ := ht
    have hci : CellsIs w0 bb (bo' + i * 6) _ := ⟨hcs⟩
    have hbe : blockErr fl f i = if (firstI (at0 B.phis (phiErr f.regs f.blocks i)) B.phis.length).1 ≠ 0 then (firstI (at0 B.phis (phiErr f.regs f.blocks i)) B.phis.length).1 else (firstI (at0 B.list (insErr fl f.regs)) B.list.length).1 := by simp [blockErr, hB]
    have hrow : ∃ row, (aheadL f.blocks)[i]? = some row := ⟨_, List.getElem?_eq_getElem (by rw [aheadL, aheadTo_length]; omega)⟩
    obtain ⟨row, hrow⟩ := hrow
    have hfail : ∀ c : Int, c ≠ 0 → blockErr fl f i = c → Value.int .i64 c = .int .i64 (firstI (blockErr fl f) f.blocks.length).1 := by
      intro c hc hb
      rw [firstI_hit hall2 (hn ▸ hlt) (by rw [hb]; exact hc), hb]
    repeat (first | refine g_op rfl ?_ | refine g_then ?_ | refine g_nil ?_ | refine g_region ?_ | refine g_seq ?_ | refine g_alloc rfl fun _ _ => ?_ | refine g_storeAgg ?_ | refine g_block ?_ | refine g_skip ?_)
    rename_i p7 _
    refine g_loop (fun (j : Nat) => j ≤ pn ∧ ∀ k, k < j → at0 B.phis (phiErr f.regs f.blocks i) k = 0) (fun j => [(46, .int .i64 j), (44, .slice pa' pn pc), (45, .int .i64 pn), (6, .int .i64 i), (7, .pointer (some ⟨p7, 0, none⟩)), (38, .int .i64 i), (36, .slice ba n bc), (37, .int .i64 n), (1, .pointer (some ⟨p1, 0, none⟩))])
      (fun _ => [Ent.box p7 [.slice pa' pn pc, .slice la ln lc, .int .i64 B.kind, .bool B.on.reg, .int .i64 B.on.n, .slice ta tn tc] 65, ⟨fp, fun w => SlAt w (.slice xa xn xc) 1 (aheadL f.blocks) RowV⟩, Ent.box p1 [g, fs, .string f.name, .int .i64 f.params, .int .i64 f.regs, .slice ba n bc, .slice xa xn xc] 87]) (fun j => pn - j) 0 ⟨Nat.zero_le _, by simp⟩ (g_done (by repeat (first | exact trivial | refine ⟨rfl, ?_⟩)) (by simp)) fun j ⟨hj, hall3⟩ => ?_
    repeat (first | refine g_op rfl ?_ | refine g_then ?_ | refine g_nil ?_ | refine g_region ?_ | refine g_seq ?_)
    refine g_cond (fun h2 => ?_) (fun h2 => ?_)
    · have hjlt : j < pn := by simpa using h2
      obtain ⟨p, hp⟩ := get_lt hpn hjlt
      have had2 : AddrIs pa' pb po := ⟨hpa (ne_of_get hp)⟩
      have hli2 : LtIs j pn := ⟨hjlt⟩
      obtain ⟨cs2, hcs2, sv, rfl, hpi, hsv⟩ := hpel j p hp
      have hsv0 := hsv
      obtain ⟨sa, sn, sc, _, _, rfl, _⟩ := hsv
      have hci2 : CellsIs w0 pb (po + j * 2) _ := ⟨hcs2⟩
      have hat : at0 B.phis (phiErr f.regs f.blocks i) j = phiE f.regs i row.length p := by simp [at0, hp, phiErr, hrow]
      repeat (first | refine g_op rfl ?_ | refine g_then ?_ | refine g_nil ?_ | refine g_region ?_ | refine g_seq ?_ | refine g_alloc rfl fun _ _ => ?_ | refine g_storeAgg ?_ | refine g_block ?_ | refine g_skip ?_)
      refine g_callV rfl (fun w hw => phi_c g fs _ _ _ _ f.regs hr (aheadL f.blocks) row i hrow p _ w (hw.get (k := 2) rfl) (hsv0.keep keeps_val hw.chg)) ?_
      repeat (first | refine g_op rfl ?_ | refine g_then ?_ | refine g_nil ?_ | refine g_region ?_ | refine g_seq ?_)
      refine g_cond (fun h3 => ?_) (fun h3 => ?_)
      · repeat (first | refine g_op rfl ?_ | refine g_then ?_ | refine g_nil ?_ | refine g_region ?_ | refine g_seq ?_ | refine g_ret ?_ | refine g_thenRet ?_ | refine g_blockRet ?_)
        have h3' : phiE f.regs i row.length p ≠ 0 := by simpa using h3
        refine g_retV rfl (hfail _ h3' ?_)
        rw [hbe, firstI_hit hall3 (hpn ▸ hjlt) (by rw [hat]; exact h3'), if_pos (by rw [hat]; exact h3'), hat]
      · repeat (first | refine g_then ?_ | refine g_nil ?_ | refine g_region ?_ | refine g_opS rfl ?_ | refine g_inBlock ?_ | refine g_skip ?_ | refine g_add rfl (by omega) (by omega) ?_)
        refine g_next (j + 1) ⟨hjlt, fun k hk => ?_⟩ (by omega) (by repeat (first | exact trivial | refine ⟨rfl, ?_⟩)) (List.Sublist.cons _ (List.Sublist.refl _))
        by_cases hkj : k = j
        · subst hkj; rw [hat]; simpa using h3
        · exact hall3 k (by omega)
    have hgej : j = pn := by have := h2; simp at this; omega
    have hbe2 : blockErr fl f i = (firstI (at0 B.list (insErr fl f.regs)) B.list.length).1 := by rw [hbe, ← hpn, ← hgej, firstI_none hall3]; rfl
    repeat (first | refine g_op rfl ?_ | refine g_then ?_ | refine g_nil ?_ | refine g_region ?_ | refine g_seq ?_ | refine g_block ?_ | refine g_exit ?_ | refine g_thenExit ?_ | refine g_exitHere ?_)
    refine g_loop (fun (j : Nat) => j ≤ ln ∧ ∀ k, k < j → at0 B.list (insErr fl f.regs) k = 0) (fun j => [(61, .int .i64 j), (59, .slice la ln lc), (60, .int .i64 ln), (38, .int .i64 i), (36, .slice ba n bc), (37, .int .i64 n), (1, .pointer (some ⟨p1, 0, none⟩))])
      (fun _ => [⟨fp, fun w => SlAt w (.slice xa xn xc) 1 (aheadL f.blocks) RowV⟩, Ent.box p1 [g, fs, .string f.name, .int .i64 f.params, .int .i64 f.regs, .slice ba n bc, .slice xa xn xc] 87]) (fun j => ln - j) 0 ⟨Nat.zero_le _, by simp⟩ (g_done (by repeat (first | exact trivial | refine ⟨rfl, ?_⟩)) (List.Sublist.cons _ (List.Sublist.refl _))) fun j ⟨hj, hall4⟩ => ?_
    repeat (first | refine g_op rfl ?_ | refine g_then ?_ | refine g_nil ?_ | refine g_region ?_ | refine g_seq ?_)
    refine g_cond (fun h3 => ?_) (fun h3 => ?_)
    · have hjlt : j < ln := by simpa using h3
      obtain ⟨x, hx⟩ := get_lt hln hjlt
      have had2 : AddrIs la lb lo := ⟨hla (ne_of_get hx)⟩
      have hli2 : LtIs j ln := ⟨hjlt⟩
      obtain ⟨cs2, hcs2, av, rfl, _, _, _, _, hfn, hav⟩ := hlel j x hx
      have hav0 := hav
      obtain ⟨aa, an, ac, _, _, rfl, _⟩ := hav
      have hci2 : CellsIs w0 lb (lo + j * 8) _ := ⟨hcs2⟩
      have hat : at0 B.list (insErr fl f.regs) j = insErr fl f.regs x := by simp [at0, hx]
      repeat (first | refine g_op rfl ?_ | refine g_then ?_ | refine g_nil ?_ | refine g_region ?_ | refine g_seq ?_ | refine g_alloc rfl fun _ _ => ?_ | refine g_storeAgg ?_ | refine g_block ?_ | refine g_skip ?_)
      refine g_callV rfl (fun w hw => ins_c g fs _ _ _ _ fl hfl f.regs hr x hfn _ w (hfs.keep keeps_func hw.chg) (hav0.keep keeps_val hw.chg)) ?_
      repeat (first | refine g_op rfl ?_ | refine g_then ?_ | refine g_nil ?_ | refine g_region ?_ | refine g_seq ?_)
      refine g_cond (fun h4 => ?_) (fun h4 => ?_)
      · repeat (first | refine g_op rfl ?_ | refine g_then ?_ | refine g_nil ?_ | refine g_region ?_ | refine g_seq ?_ | refine g_ret ?_ | refine g_thenRet ?_ | refine g_blockRet ?_)
        have h4' : insErr fl f.regs x ≠ 0 := by simpa using h4
        refine g_retV rfl (hfail _ h4' ?_)
        rw [hbe2, firstI_hit hall4 (hln ▸ hjlt) (by rw [hat]; exact h4'), hat]
      · repeat (first | refine g_then ?_ | refine g_nil ?_ | refine g_region ?_ | refine g_opS rfl ?_ | refine g_inBlock ?_ | refine g_skip ?_ | refine g_add rfl (by omega) (by omega) ?_)
        refine g_next (j + 1) ⟨hjlt, fun k hk => ?_⟩ (by omega) (by repeat (first | exact trivial | refine ⟨rfl, ?_⟩)) (List.Sublist.cons _ (List.Sublist.refl _))
        by_cases hkj : k = j
        · subst hkj; rw [hat]; simpa using h4
        · exact hall4 k (by omega)
    · have hgel : j = ln := by have := h3; simp at this; omega
      have hz : blockErr fl f i = 0 := by rw [hbe2, ← hln, ← hgel, firstI_none hall4]
      repeat (first | refine g_then ?_ | refine g_nil ?_ | refine g_region ?_ | refine g_opS rfl ?_ | refine g_inBlock ?_ | refine g_add rfl (by omega) (by omega) ?_ | refine g_exit ?_ | refine g_thenExit ?_ | refine g_exitHere ?_)
      refine g_next (i + 1) ⟨hlt, fun k hk => ?_⟩ (by omega) (by repeat (first | exact trivial | refine ⟨rfl, ?_⟩)) (List.Sublist.refl _)
      by_cases hki : k = i
      · subst hki; exact hz
      · exact hall2 k (by omega)
  · have hge2 : i = n := by have := h1; simp at this; omega
    repeat (first | refine g_op rfl ?_ | refine g_then ?_ | refine g_nil ?_ | refine g_region ?_ | refine g_seq ?_ | refine g_exit ?_ | refine g_thenExit ?_ | refine g_exitHere ?_ | refine g_ret ?_)
    exact g_retV rfl (by rw [← hn, ← hge2, firstI_none hall2])
end Go.Proofs.YtebajiafdkokjaaDoor

/- turnerymeans.Heavy and code.Check: what each returns. -/
namespace Go.Proofs.YtebajiafdkokjaaDoor
open Go Go.RowKit
attribute [local irreducible] wpListIn Code.wpIn Exit.then Exit.inBlock bodyPost wpQuiet wpAnyIn
set_option maxHeartbeats 2000000

def light (u : LUnit) : Prop := u.funcs.length ≤ 10 ∧ ∀ f ∈ u.funcs, lightF f
theorem indexFF_c (v : Value) (l : List LFunc) (w0 : World) (hv : SlAt w0 v 4 l FuncV) :
    RetV Tryd.prog 62 [v, .func (.func 63) #[] #[]] w0 (.int .i64 (mainAt l)) := by
  obtain ⟨a, n, c, b, o, rfl, hn, hnc, hnb, hc, ha, hel⟩ := hv
  have one : ∀ (w : World) (x : LFunc) (v : Value), RetV Tryd.prog 63 [.agg #[.string x.name, .int .i64 x.params, .int .i64 x.regs, v]] w (.bool (isMain x)) := by
    intro w x v
    refine ret_enter Tryd.func63 rfl Tryd.ntmps63 rfl (Wd.nil NoS w) ?_
    repeat (first | refine g_op rfl ?_ | refine g_then ?_ | refine g_nil ?_ | refine g_region ?_ | refine g_seq ?_ | refine g_opS rfl ?_ | refine g_box rfl fun _ _ => ?_ | refine g_ret ?_)
    exact g_retV rfl rfl
  refine ret_enter Tryd.func62 rfl Tryd.ntmps62 rfl (Wd.nil NoS w0) ?_
  repeat (first | refine g_op rfl ?_ | refine g_then ?_ | refine g_nil ?_ | refine g_region ?_ | refine g_seq ?_ | refine g_block ?_)
  refine g_loop (fun (i : Nat) => i ≤ n ∧ ∀ j t, j < i → l[j]? = some t → isMain t = false) (fun i => [(8, .int .i64 i), (0, .slice a n c), (1, .func (.func 63) #[] #[]), (7, .int .i64 n)]) (fun _ => []) (fun i => n - i) 0 ⟨Nat.zero_le _, by simp⟩ (g_done (by repeat (first | exact trivial | refine ⟨rfl, ?_⟩)) (by simp)) fun i ⟨hi, hall⟩ => ?_
  repeat (first | refine g_op rfl ?_ | refine g_then ?_ | refine g_nil ?_ | refine g_region ?_ | refine g_seq ?_)
  refine g_cond (fun h1 => ?_) (fun h1 => ?_)
  · have hlt : i < n := by simpa using h1
    obtain ⟨x, hx⟩ := get_lt hn hlt
    have had : AddrIs a b o := ⟨ha (ne_of_get hx)⟩
    have hli : LtIs i n := ⟨hlt⟩
    obtain ⟨cs, hcs, bv, rfl, _⟩ := hel i x hx
    have hci : CellsIs w0 b (o + i * 4) _ := ⟨hcs⟩
    repeat (first | refine g_op rfl ?_ | refine g_then ?_ | refine g_nil ?_ | refine g_region ?_ | refine g_seq ?_ | refine g_block ?_ | refine g_skip ?_)
    refine g_callFV rfl (us := []) (vs := [.agg #[.string x.name, .int .i64 x.params, .int .i64 x.regs, bv]]) (xs := []) (fun w _ => one w x bv) ?_
    repeat (first | refine g_then ?_ | refine g_nil ?_)
    refine g_cond (fun h2 => ?_) (fun h2 => ?_)
    · repeat (first | refine g_op rfl ?_ | refine g_then ?_ | refine g_nil ?_ | refine g_region ?_ | refine g_seq ?_ | refine g_ret ?_ | refine g_thenRet ?_ | refine g_blockRet ?_)
      refine g_retV rfl ?_
      have : l.findIdx? isMain = some i := by
        rw [List.findIdx?_eq_some_iff_getElem]
        have hil : i < l.length := by omega
        have hxi : l[i] = x := (List.getElem?_eq_some_iff.1 hx).2
        exact ⟨hil, by rw [hxi]; exact h2, fun j hj => by have := hall j l[j] hj (List.getElem?_eq_getElem (by omega)); simp [this]⟩
      simp [mainAt, this]
    · repeat (first | refine g_then ?_ | refine g_nil ?_ | refine g_region ?_ | refine g_opS rfl ?_ | refine g_inBlock ?_ | refine g_skip ?_ | refine g_add rfl (by omega) (by omega) ?_)
      refine g_next (i + 1) ⟨hlt, fun j t hj ht => ?_⟩ (by omega) (by repeat (first | exact trivial | refine ⟨rfl, ?_⟩)) (by simp)
      by_cases hji : j = i
      · subst hji
        rw [hx] at ht
        simp only [Option.some.injEq] at ht
        subst ht; exact h2
      · exact hall j t (by omega) ht
  · have hge : i = n := by have := h1; simp at this; omega
    repeat (first | refine g_op rfl ?_ | refine g_then ?_ | refine g_nil ?_ | refine g_region ?_ | refine g_seq ?_ | refine g_exit ?_ | refine g_thenExit ?_ | refine g_exitHere ?_ | refine g_ret ?_)
    refine g_retV rfl ?_
    have : l.findIdx? isMain = none := by
      rw [List.findIdx?_eq_none_iff]
      intro t ht
      obtain ⟨j, hj⟩ := List.getElem?_of_mem ht
      exact hall j t (by have := (List.getElem?_eq_some_iff.1 hj).1; omega) hj
    simp [mainAt, this]

theorem names_sl {S : Nat → Prop} {w0 w : World} {H : List Ent} {k c n e : Nat} {a : Option Addr} {l : List ByteArray} (h : Wd S w0 H w) (hk : H[k]? = some (Ent.vec a n c e 1 (l.map .string))) (hn : n = l.length) (hb : n ≤ 1000) : SlAt w (.slice a n c) 1 l StrV := by
  refine h.slAt hk hn (by omega) fun i x hx => ⟨[.string x], fun j v hj => ?_, rfl⟩
  match j, hj with
  | 0, hj => simpa [hx] using hj
theorem totTo_succ {l : List LGlobal} {i : Nat} {x : LGlobal} (h : l[i]? = some x) : totTo l (i + 1) = totTo l i + x.size := by
  simp [totTo, List.take_add_one, h, List.sum_append]
theorem check_c (u : LUnit) (hl : light u) (g fs : Value) (w0 : World) (hg : SlAt w0 g 3 u.globals GlobalV) (hf : SlAt w0 fs 4 u.funcs FuncV) (hways : CellsAt w0 0 0 waysC) :
    RetV Tryd.prog 30 [.agg #[g, fs]] w0 (.agg #[.int .i64 (checkL u).1, .int .i64 (checkL u).2]) := by
  have hg0 := hg
  have hf0 := hf
  obtain ⟨ga, gn, gc, gb, go, rfl, hgn, hgnc, hgnb, hgc, hga, hgel⟩ := hg
  obtain ⟨fa, fn, fc, fb, fo, rfl, hfn, hfnc, hfnb, hfc, hfa, hfel⟩ := hf
  have hl10 := hl.1
  refine ret_enter Tryd.func30 rfl Tryd.ntmps30 rfl (Wd.nil NoS w0) ?_
  repeat (first | refine g_op rfl ?_ | refine g_then ?_ | refine g_nil ?_ | refine g_region ?_ | refine g_seq ?_ | refine g_box rfl fun _ _ => ?_ | refine g_alloc rfl fun _ _ => ?_)
  rename_i p1 _ p2 _
  generalize hb1 : decide (10 < (gn : Int)) = b1
  refine g_joinTo 26 (.bool (b1 || decide (10 < (fn : Int)))) ?_ ?_
  · cases b1
    · repeat (first | refine g_op rfl ?_ | refine g_then ?_ | refine g_nil ?_ | refine g_open ?_)
      exact g_done (by repeat (first | exact trivial | refine ⟨rfl, ?_⟩)) (by simp)
    · repeat (first | refine g_op rfl ?_ | refine g_then ?_ | refine g_nil ?_ | refine g_pass rfl ?_)
      exact g_done (by repeat (first | exact trivial | refine ⟨rfl, ?_⟩)) (by simp)
  repeat (first | refine g_then ?_ | refine g_nil ?_)
  refine g_cond (fun h1 => ?_) (fun h1 => ?_)
  · repeat (first | refine g_region ?_ | refine g_seq ?_)
    refine g_callV rfl (fun w _ => fault_c _ _ w) ?_
    repeat (first | refine g_then ?_ | refine g_nil ?_ | refine g_storeAgg ?_ | refine g_ret ?_ | refine g_thenRet ?_)
    refine g_retC rfl fun _ hw => ⟨?_, hw.chg⟩
    have : 10 < (u.globals.length : Int) ∨ 10 < (u.funcs.length : Int) := by subst hb1; rw [← hgn, ← hfn]; simpa using h1
    simp only [checkL, if_pos this]
  have h1' : ¬ (10 < (u.globals.length : Int) ∨ 10 < (u.funcs.length : Int)) := by subst hb1; rw [← hgn, ← hfn]; simpa using h1
  have hgl : gn ≤ 10 := by omega
  repeat (first | refine g_op rfl ?_ | refine g_then ?_ | refine g_nil ?_ | refine g_region ?_ | refine g_seq ?_ | refine g_block ?_ | refine g_skip ?_)
  refine g_nilVec 9 1 ?_
  refine g_loop (fun (x : Nat × Option Addr × Nat) => x.1 ≤ gn ∧ (0 ≤ totTo u.globals x.1 ∧ totTo u.globals x.1 ≤ 200) ∧ ∀ j, j < x.1 → globAt u.globals j = 0) (fun x => [(31, .int .i64 x.1), (29, .slice ga gn gc), (30, .int .i64 gn), (3, .slice x.2.1 x.1 x.2.2), (4, .int .i64 (totTo u.globals x.1)), (1, .pointer (some ⟨p1, 0, none⟩)), (2, .pointer (some ⟨p2, 0, none⟩))])
    (fun x => [Ent.vec x.2.1 x.1 x.2.2 9 1 (((u.globals.take x.1).map (·.name)).map .string), Ent.box p2 [.int .i64 0, .int .i64 0] 29, Ent.box p1 [.slice ga gn gc, .slice fa fn fc] 25]) (fun x => gn - x.1) (0, none, 0) ⟨Nat.zero_le _, by simp [totTo], by simp⟩ (g_done (by repeat (first | exact trivial | refine ⟨rfl, ?_⟩)) (by simp)) fun x ⟨hi, htot, hall⟩ => ?_
  obtain ⟨i, na, nc⟩ := x
  simp only at hi htot hall ⊢
  repeat (first | refine g_op rfl ?_ | refine g_then ?_ | refine g_nil ?_ | refine g_region ?_ | refine g_seq ?_)
  refine g_cond (fun h2 => ?_) (fun h2 => ?_)
  · have hlt : i < gn := by simpa using h2
    obtain ⟨X, hX⟩ := get_lt hgn hlt
    have had : AddrIs ga gb go := ⟨hga (ne_of_get hX)⟩
    have hli : LtIs i gn := ⟨hlt⟩
    obtain ⟨cs, hcs, iv, rfl, hxs, hiv⟩ := hgel i X hX
    obtain ⟨ia, inn, ic, _, _, rfl, hin, _, hinb, _⟩ := hiv
    have hci : CellsIs w0 gb (go + i * 3) _ := ⟨hcs⟩
    have hat : globAt u.globals i = globErr ((u.globals.take i).map (·.name)) (totTo u.globals i) X := by simp [globAt, at0, hX]
    have hnl : i = ((u.globals.take i).map (·.name)).length := by rw [List.length_map, List.length_take]; omega
    have hts := totTo_succ hX
    repeat (first | refine g_then ?_ | refine g_seq ?_ | refine g_skip ?_)
    refine g_block ?_
    repeat (first | refine g_op rfl ?_ | refine g_then ?_ | refine g_nil ?_ | refine g_region ?_ | refine g_seq ?_ | refine g_alloc rfl fun _ _ => ?_ | refine g_storeAgg ?_)
    rename_i p6 _
    refine g_mid [(7, .int .i64 (globAt u.globals i)), (5, .int .i64 i), (6, .pointer (some ⟨p6, 0, none⟩)), (31, .int .i64 i), (29, .slice ga gn gc), (30, .int .i64 gn), (3, .slice na i nc), (4, .int .i64 (totTo u.globals i)), (1, .pointer (some ⟨p1, 0, none⟩)), (2, .pointer (some ⟨p2, 0, none⟩))]
      [Ent.box p6 [.string X.name, .int .i64 X.size, .slice ia inn ic] 82, Ent.vec na i nc 9 1 (((u.globals.take i).map (·.name)).map .string), Ent.box p2 [.int .i64 0, .int .i64 0] 29, Ent.box p1 [.slice ga gn gc, .slice fa fn fc] 25] ?_ ?_
    · rw [hat]
      repeat (first | refine g_op rfl ?_ | refine g_region ?_ | refine g_seq ?_ | refine g_block ?_)
      refine g_callV rfl (fun w _ => name_c _ w) ?_
      repeat (first | refine g_op rfl ?_ | refine g_then ?_ | refine g_nil ?_)
      refine g_cond (fun k1 => ?_) (fun k1 => ?_)
      · rw [show globErr ((u.globals.take i).map (·.name)) (totTo u.globals i) X = 12 by simp only [globErr, k1]; rfl]
        repeat (first | refine g_then ?_ | refine g_nil ?_ | refine g_region ?_ | refine g_opS rfl ?_ | refine g_inBlock ?_)
        exact g_done (by repeat (first | exact trivial | refine ⟨rfl, ?_⟩)) (List.Sublist.refl _)
      repeat (first | refine g_op rfl ?_ | refine g_region ?_ | refine g_seq ?_)
      refine g_callV rfl (fun w hw => containsS_c _ ((u.globals.take i).map (·.name)) _ w (names_sl hw (k := 1) rfl hnl (by omega))) ?_
      repeat (first | refine g_op rfl ?_ | refine g_then ?_ | refine g_nil ?_)
      refine g_cond (fun k2 => ?_) (fun k2 => ?_)
      · rw [show globErr ((u.globals.take i).map (·.name)) (totTo u.globals i) X = 7 by simp only [globErr, k1, k2]; rfl]
        repeat (first | refine g_then ?_ | refine g_nil ?_ | refine g_region ?_ | refine g_opS rfl ?_ | refine g_inBlock ?_)
        exact g_done (by repeat (first | exact trivial | refine ⟨rfl, ?_⟩)) (List.Sublist.refl _)
      repeat (first | refine g_op rfl ?_ | refine g_region ?_ | refine g_seq ?_)
      refine g_callV rfl (fun w _ => within_c _ _ _ w) ?_
      repeat (first | refine g_op rfl ?_ | refine g_then ?_ | refine g_nil ?_)
      refine g_cond (fun k3 => ?_) (fun k3 => ?_)
      · rw [show globErr ((u.globals.take i).map (·.name)) (totTo u.globals i) X = 3 by simp only [globErr, k1, k2, k3]; rfl]
        repeat (first | refine g_then ?_ | refine g_nil ?_ | refine g_region ?_ | refine g_opS rfl ?_ | refine g_inBlock ?_)
        exact g_done (by repeat (first | exact trivial | refine ⟨rfl, ?_⟩)) (List.Sublist.refl _)
      have hsz : 1 ≤ X.size ∧ X.size ≤ 200 := by simpa [within] using k3
      repeat (first | refine g_op rfl ?_ | refine g_then ?_ | refine g_nil ?_ | refine g_region ?_ | refine g_seq ?_)
      refine g_cond (fun k4 => ?_) (fun k4 => ?_)
      · rw [show globErr ((u.globals.take i).map (·.name)) (totTo u.globals i) X = 9 by simp only [globErr, k1, k2, k3]; rw [← hin]; simp only [decide_eq_true_eq] at k4; rw [if_pos k4]; rfl]
        repeat (first | refine g_then ?_ | refine g_nil ?_ | refine g_region ?_ | refine g_opS rfl ?_ | refine g_inBlock ?_)
        exact g_done (by repeat (first | exact trivial | refine ⟨rfl, ?_⟩)) (List.Sublist.refl _)
      simp only [decide_eq_false_iff_not] at k4
      repeat (first | refine g_op rfl ?_ | refine g_then ?_ | refine g_nil ?_ | refine g_region ?_ | refine g_seq ?_ | refine g_add rfl (by omega) (by omega) ?_)
      refine g_cond (fun k5 => ?_) (fun k5 => ?_)
      · rw [show globErr ((u.globals.take i).map (·.name)) (totTo u.globals i) X = 10 by simp only [globErr, k1, k2, k3]; rw [← hin]; simp only [decide_eq_true_eq] at k5; rw [if_neg k4, if_pos k5]; rfl]
        repeat (first | refine g_then ?_ | refine g_nil ?_ | refine g_region ?_ | refine g_opS rfl ?_ | refine g_inBlock ?_)
        exact g_done (by repeat (first | exact trivial | refine ⟨rfl, ?_⟩)) (List.Sublist.refl _)
      · rw [show globErr ((u.globals.take i).map (·.name)) (totTo u.globals i) X = 0 by simp only [globErr, k1, k2, k3]; rw [← hin]; simp only [decide_eq_false_iff_not] at k5; rw [if_neg k4, if_neg k5]; rfl]
        repeat (first | refine g_then ?_ | refine g_inBlock ?_ | refine g_skip ?_)
        exact g_done (by repeat (first | exact trivial | refine ⟨rfl, ?_⟩)) (List.Sublist.refl _)
    repeat (first | refine g_op rfl ?_ | refine g_then ?_ | refine g_nil ?_ | refine g_region ?_ | refine g_seq ?_)
    refine g_cond (fun h3 => ?_) (fun h3 => ?_)
    · have h3' : globAt u.globals i ≠ 0 := by simpa using h3
      repeat (first | refine g_op rfl ?_ | refine g_region ?_ | refine g_seq ?_)
      refine g_callV rfl (fun w _ => fault_c _ _ w) ?_
      repeat (first | refine g_then ?_ | refine g_nil ?_ | refine g_storeAgg ?_ | refine g_ret ?_ | refine g_thenRet ?_ | refine g_blockRet ?_)
      refine g_retC rfl fun _ hw => ⟨?_, hw.chg⟩
      have hh := firstI_hit hall (hgn ▸ hlt) h3'
      simp only [checkL, if_neg h1', hh]
      rw [if_pos h3']
    have h3' : globAt u.globals i = 0 := by simpa using h3
    have hok : (1 ≤ X.size ∧ X.size ≤ 200) ∧ totTo u.globals i + X.size ≤ 200 := by
      rw [hat] at h3'
      unfold globErr at h3'
      by_cases q1 : nameOk X.name = true <;> simp only [q1, Bool.not_true, Bool.not_false] at h3'
      · by_cases q2 : hasName ((u.globals.take i).map (·.name)) X.name = true <;> simp only [q2] at h3'
        · cases h3'
        · by_cases q3 : within X.size 1 200 = true <;> simp only [q3, Bool.not_true, Bool.not_false] at h3'
          · have hsz : 1 ≤ X.size ∧ X.size ≤ 200 := by simpa [within] using q3
            refine ⟨hsz, ?_⟩
            by_cases q4 : X.size < (X.init.length : Int)
            · simp only [q4] at h3'; cases h3'
            · by_cases q5 : 200 < totTo u.globals i + X.size
              · simp only [q4, q5] at h3'; cases h3'
              · omega
          · cases h3'
      · cases h3'
    obtain ⟨hsz, htt⟩ := hok
    repeat (first | refine g_op rfl ?_ | refine g_then ?_ | refine g_region ?_ | refine g_seq ?_ | refine g_skip ?_ | refine g_build1 rfl rfl fun _ _ => ?_)
    refine g_append rfl rfl (by omega) (by omega) fun a' c' => ?_
    rw [show ((u.globals.take i).map (·.name)).map Value.string ++ [.string X.name] = ((u.globals.take (i + 1)).map (·.name)).map Value.string by simp [List.take_add_one, hX]]
    repeat (first | refine g_op rfl ?_ | refine g_then ?_ | refine g_nil ?_ | refine g_region ?_ | refine g_opS rfl ?_ | refine g_inBlock ?_ | refine g_add rfl (by omega) (by omega) ?_)
    refine g_next (i + 1, a', c') ⟨hlt, by simp only [hts]; omega, fun j hj => ?_⟩ (by simp only; omega) ?_ ?_
    · by_cases hji : j = i
      · subst hji; exact h3'
      · exact hall j (by simp only at hj; omega)
    · rw [hts]
      exact (by repeat (first | exact trivial | refine ⟨rfl, ?_⟩))
    · exact List.Sublist.cons _ (List.Sublist.cons _ (List.Sublist.refl _))
  have hge : i = gn := by have := h2; simp at this; omega
  have hgz : (firstI (globAt u.globals) u.globals.length) = (0, 0) := firstI_none (by rw [← hgn, ← hge]; exact hall)
  have htk : (u.globals.take i).map (·.name) = u.globals.map (·.name) := by rw [hge, hgn, List.take_length]
  rw [htk]
  subst hge
  repeat (first | refine g_op rfl ?_ | refine g_then ?_ | refine g_nil ?_ | refine g_region ?_ | refine g_seq ?_ | refine g_block ?_ | refine g_exit ?_ | refine g_thenExit ?_ | refine g_exitHere ?_)
  refine g_loop (fun (x : Nat × Option Addr × Nat) => x.1 ≤ fn ∧ ∀ j, j < x.1 → headAt u j = 0) (fun x => [(82, .int .i64 x.1), (80, .slice fa fn fc), (81, .int .i64 fn), (3, .slice x.2.1 (i + x.1) x.2.2), (1, .pointer (some ⟨p1, 0, none⟩)), (2, .pointer (some ⟨p2, 0, none⟩))])
    (fun x => [Ent.vec x.2.1 (i + x.1) x.2.2 9 1 ((u.globals.map (·.name) ++ (u.funcs.take x.1).map (·.name)).map .string), Ent.box p2 [.int .i64 0, .int .i64 0] 29, Ent.box p1 [.slice ga i gc, .slice fa fn fc] 25]) (fun x => fn - x.1) (0, na, nc) ⟨Nat.zero_le _, by simp⟩ (by simp only [List.take_zero, List.map_nil, List.append_nil, Nat.add_zero]; exact g_done (by repeat (first | exact trivial | refine ⟨rfl, ?_⟩)) (List.Sublist.refl _)) fun x ⟨hi2, hall2⟩ => ?_
  obtain ⟨k, ma, mc⟩ := x
  simp only at hi2 hall2 ⊢
  repeat (first | refine g_op rfl ?_ | refine g_then ?_ | refine g_nil ?_ | refine g_region ?_ | refine g_seq ?_)
  refine g_cond (fun h4 => ?_) (fun h4 => ?_)
  · have hlt : k < fn := by simpa using h4
    obtain ⟨X, hX⟩ := get_lt hfn hlt
    have had : AddrIs fa fb fo := ⟨hfa (ne_of_get hX)⟩
    have hli : LtIs k fn := ⟨hlt⟩
    obtain ⟨cs, hcs, bv, rfl, hpi, hri, hbv⟩ := hfel k X hX
    have hbv0 := hbv
    obtain ⟨ba, bn, bc, _, _, rfl, _⟩ := hbv
    have hci : CellsIs w0 fb (fo + k * 4) _ := ⟨hcs⟩
    have hlx := hl.2 X (List.mem_of_getElem? hX)
    have hat : headAt u k = headErr (u.globals.map (·.name) ++ (u.funcs.take k).map (·.name)) X := by simp [headAt, at0, hX]
    have hnl : i + k = (u.globals.map (·.name) ++ (u.funcs.take k).map (·.name)).length := by rw [List.length_append, List.length_map, List.length_map, List.length_take]; omega
    repeat (first | refine g_op rfl ?_ | refine g_then ?_ | refine g_nil ?_ | refine g_region ?_ | refine g_seq ?_ | refine g_alloc rfl fun _ _ => ?_ | refine g_storeAgg ?_ | refine g_block ?_ | refine g_skip ?_)
    refine g_callV rfl (fun w hw => head_c _ _ _ X hlx _ _ (u.globals.map (·.name) ++ (u.funcs.take k).map (·.name)) w (hbv0.keep keeps_block hw.chg) (names_sl hw (k := 2) rfl hnl (by omega))) ?_
    repeat (first | refine g_op rfl ?_ | refine g_then ?_ | refine g_nil ?_ | refine g_region ?_ | refine g_seq ?_)
    refine g_cond (fun h3 => ?_) (fun h3 => ?_)
    · have h3' : headAt u k ≠ 0 := by rw [hat]; simpa using h3
      repeat (first | refine g_op rfl ?_ | refine g_region ?_ | refine g_seq ?_)
      refine g_callV rfl (fun w _ => fault_c _ _ w) ?_
      repeat (first | refine g_then ?_ | refine g_nil ?_ | refine g_storeAgg ?_ | refine g_ret ?_ | refine g_thenRet ?_ | refine g_blockRet ?_)
      refine g_retC rfl fun _ hw => ⟨?_, hw.chg⟩
      have hh := firstI_hit hall2 (hfn ▸ hlt) h3'
      simp only [checkL, if_neg h1', hgz, hh]
      rw [if_neg (by simp), if_pos h3', hat]
    have h3' : headAt u k = 0 := by rw [hat]; simpa using h3
    repeat (first | refine g_op rfl ?_ | refine g_then ?_ | refine g_region ?_ | refine g_skip ?_ | refine g_build1 rfl rfl fun _ _ => ?_)
    refine g_append rfl rfl (by omega) (by omega) fun a' c' => ?_
    rw [show (u.globals.map (·.name) ++ (u.funcs.take k).map (·.name)).map Value.string ++ [.string X.name] = (u.globals.map (·.name) ++ (u.funcs.take (k + 1)).map (·.name)).map Value.string by simp [List.take_add_one, hX]]
    repeat (first | refine g_then ?_ | refine g_nil ?_ | refine g_region ?_ | refine g_opS rfl ?_ | refine g_inBlock ?_ | refine g_add rfl (by omega) (by omega) ?_)
    refine g_next (k + 1, a', c') ⟨hlt, fun j hj => ?_⟩ (by simp only; omega) (by repeat (first | exact trivial | refine ⟨rfl, ?_⟩)) ?_
    · by_cases hji : j = k
      · subst hji; exact h3'
      · exact hall2 j (by simp only at hj; omega)
    · exact List.Sublist.cons _ (List.Sublist.cons _ (List.Sublist.cons _ (List.Sublist.refl _)))
  have hgek : k = fn := by have := h4; simp at this; omega
  have hhz : (firstI (headAt u) u.funcs.length) = (0, 0) := firstI_none (by rw [← hfn, ← hgek]; exact hall2)
  have hregs : ∀ X ∈ u.funcs, 0 ≤ X.regs ∧ X.regs ≤ 100 := by
    intro X hX
    obtain ⟨j, hj⟩ := List.getElem?_of_mem hX
    have hjl : j < k := by rw [hgek, hfn]; exact (List.getElem?_eq_some_iff.1 hj).1
    have hz := hall2 j hjl
    simp only [headAt, at0, hj] at hz
    unfold headErr at hz
    by_cases q1 : nameOk X.name = true <;> simp only [q1, Bool.not_true, Bool.not_false] at hz
    · by_cases q2 : hasName (u.globals.map (·.name) ++ (u.funcs.take j).map (·.name)) X.name = true <;> simp only [q2] at hz
      · cases hz
      · by_cases q3 : (!within X.params 0 6 || !within X.regs X.params 100) = true
        · simp only [q3] at hz; cases hz
        · simp [within] at q3; omega
    · cases hz
  repeat (first | refine g_op rfl ?_ | refine g_then ?_ | refine g_nil ?_ | refine g_region ?_ | refine g_seq ?_ | refine g_block ?_ | refine g_exit ?_ | refine g_thenExit ?_ | refine g_exitHere ?_)
  refine g_loop (fun (j : Nat) => j ≤ fn ∧ ∀ q, q < j → at0 u.funcs (bodyErr u.funcs) q = 0) (fun j => [(107, .int .i64 j), (105, .slice fa fn fc), (106, .int .i64 fn), (1, .pointer (some ⟨p1, 0, none⟩)), (2, .pointer (some ⟨p2, 0, none⟩))])
    (fun _ => [Ent.box p2 [.int .i64 0, .int .i64 0] 29, Ent.box p1 [.slice ga i gc, .slice fa fn fc] 25]) (fun j => fn - j) 0 ⟨Nat.zero_le _, by simp⟩ (g_done (by repeat (first | exact trivial | refine ⟨rfl, ?_⟩)) (List.Sublist.cons _ (List.Sublist.refl _))) fun j ⟨hj, hall3⟩ => ?_
  repeat (first | refine g_op rfl ?_ | refine g_then ?_ | refine g_nil ?_ | refine g_region ?_ | refine g_seq ?_)
  refine g_cond (fun h5 => ?_) (fun h5 => ?_)
  · have hlt : j < fn := by simpa using h5
    obtain ⟨X, hX⟩ := get_lt hfn hlt
    have had : AddrIs fa fb fo := ⟨hfa (ne_of_get hX)⟩
    have hli : LtIs j fn := ⟨hlt⟩
    obtain ⟨cs, hcs, bv, rfl, hpi, hri, hbv⟩ := hfel j X hX
    have hbv0 := hbv
    obtain ⟨ba, bn, bc, _, _, rfl, _⟩ := hbv
    have hci : CellsIs w0 fb (fo + j * 4) _ := ⟨hcs⟩
    have hXm := List.mem_of_getElem? hX
    have hat : at0 u.funcs (bodyErr u.funcs) j = bodyErr u.funcs X := by simp [at0, hX]
    repeat (first | refine g_op rfl ?_ | refine g_then ?_ | refine g_nil ?_ | refine g_region ?_ | refine g_seq ?_ | refine g_alloc rfl fun _ _ => ?_ | refine g_storeAgg ?_ | refine g_block ?_ | refine g_skip ?_)
    refine g_callV rfl (fun w hw => body_c _ _ _ u.funcs (by omega) X (hl.2 X hXm) (hregs X hXm) _ w (hf0.keep keeps_func hw.chg) (hbv0.keep keeps_block hw.chg) (hways.keep hw.chg) rfl) ?_
    repeat (first | refine g_op rfl ?_ | refine g_then ?_ | refine g_nil ?_ | refine g_region ?_ | refine g_seq ?_)
    refine g_cond (fun h3 => ?_) (fun h3 => ?_)
    · have h3' : at0 u.funcs (bodyErr u.funcs) j ≠ 0 := by rw [hat]; simpa using h3
      repeat (first | refine g_op rfl ?_ | refine g_region ?_ | refine g_seq ?_)
      refine g_callV rfl (fun w _ => fault_c _ _ w) ?_
      repeat (first | refine g_then ?_ | refine g_nil ?_ | refine g_storeAgg ?_ | refine g_ret ?_ | refine g_thenRet ?_ | refine g_blockRet ?_)
      refine g_retC rfl fun _ hw => ⟨?_, hw.chg⟩
      have hh := firstI_hit hall3 (hfn ▸ hlt) h3'
      simp only [checkL, if_neg h1', hgz, hhz, hh]
      rw [if_neg (by simp), if_neg (by simp), if_pos h3', hat]
    · have h3' : at0 u.funcs (bodyErr u.funcs) j = 0 := by rw [hat]; simpa using h3
      repeat (first | refine g_then ?_ | refine g_nil ?_ | refine g_region ?_ | refine g_opS rfl ?_ | refine g_inBlock ?_ | refine g_skip ?_ | refine g_add rfl (by omega) (by omega) ?_)
      refine g_next (j + 1) ⟨hlt, fun q hq => ?_⟩ (by omega) (by repeat (first | exact trivial | refine ⟨rfl, ?_⟩)) (List.Sublist.cons _ (List.Sublist.cons _ (List.Sublist.refl _)))
      by_cases hqj : q = j
      · subst hqj; exact h3'
      · exact hall3 q (by omega)
  have hgej : j = fn := by have := h5; simp at this; omega
  have hbz : (firstI (at0 u.funcs (bodyErr u.funcs)) u.funcs.length) = (0, 0) := firstI_none (by rw [← hfn, ← hgej]; exact hall3)
  have hcl : checkL u = if mainAt u.funcs < 0 then (6, 0) else if 0 < at0 u.funcs (·.params) (mainAt u.funcs).toNat then (5, mainAt u.funcs) else (0, 0) := by
    simp only [checkL, if_neg h1', hgz, hhz, hbz]
    rfl
  rw [hcl]
  repeat (first | refine g_op rfl ?_ | refine g_then ?_ | refine g_region ?_ | refine g_seq ?_ | refine g_exit ?_ | refine g_thenExit ?_ | refine g_exitHere ?_)
  refine g_callV rfl (fun w hw => indexFF_c _ u.funcs w (hf0.keep keeps_func hw.chg)) ?_
  repeat (first | refine g_op rfl ?_ | refine g_then ?_ | refine g_nil ?_ | refine g_region ?_ | refine g_seq ?_)
  refine g_cond (fun h6 => ?_) (fun h6 => ?_)
  · repeat (first | refine g_region ?_ | refine g_seq ?_)
    refine g_callV rfl (fun w _ => fault_c _ _ w) ?_
    repeat (first | refine g_then ?_ | refine g_nil ?_ | refine g_storeAgg ?_ | refine g_ret ?_ | refine g_thenRet ?_)
    refine g_retC rfl fun _ hw => ⟨?_, hw.chg⟩
    rw [if_pos (by simpa using h6)]
  have h6' : ¬ mainAt u.funcs < 0 := by simpa using h6
  rw [if_neg h6']
  obtain ⟨m, hm⟩ : ∃ m : Nat, mainAt u.funcs = m := ⟨(mainAt u.funcs).toNat, by omega⟩
  have hml : m < fn := by
    unfold mainAt at hm
    split at hm
    · rename_i q hq
      have := (List.findIdx?_eq_some_iff_getElem.1 hq).1
      omega
    · omega
  obtain ⟨X, hX⟩ := get_lt hfn hml
  have had : AddrIs fa fb fo := ⟨hfa (ne_of_get hX)⟩
  have hli : LtIs m fn := ⟨hml⟩
  have hni : NatIs (mainAt u.funcs) m := ⟨hm⟩
  obtain ⟨cs, hcs, bv, rfl, hpi, hri, hbv⟩ := hfel m X hX
  have hci : CellsIs w0 fb (fo + m * 4) _ := ⟨hcs⟩
  have hat : at0 u.funcs (·.params) (mainAt u.funcs).toNat = X.params := by rw [hm]; simp [at0, hX]
  rw [hat]
  repeat (first | refine g_op rfl ?_ | refine g_then ?_ | refine g_nil ?_ | refine g_region ?_ | refine g_seq ?_ | refine g_skip ?_)
  refine g_cond (fun h7 => ?_) (fun h7 => ?_)
  · repeat (first | refine g_op rfl ?_ | refine g_region ?_ | refine g_seq ?_)
    refine g_callV rfl (fun w _ => fault_c _ _ w) ?_
    repeat (first | refine g_then ?_ | refine g_nil ?_ | refine g_storeAgg ?_ | refine g_ret ?_ | refine g_thenRet ?_)
    refine g_retC rfl fun _ hw => ⟨?_, hw.chg⟩
    rw [if_pos (by simpa using h7)]
  · repeat (first | refine g_op rfl ?_ | refine g_then ?_ | refine g_nil ?_ | refine g_region ?_ | refine g_seq ?_ | refine g_storeAgg ?_ | refine g_skip ?_ | refine g_ret ?_)
    refine g_retC rfl fun _ hw => ⟨?_, hw.chg⟩
    rw [if_neg (by simpa using h7)]
end Go.Proofs.YtebajiafdkokjaaDoor

/- turnerymeans.Heavy, turnerylaw3.asked, graph.Func: what each returns. -/
namespace Go.Proofs.YtebajiafdkokjaaDoor
open Go Go.RowKit
attribute [local irreducible] wpListIn Code.wpIn Exit.then Exit.inBlock bodyPost wpQuiet wpAnyIn
set_option maxHeartbeats 2000000

theorem heavy_c (u : LUnit) (g fs : Value) (w0 : World) (hf : SlAt w0 fs 4 u.funcs FuncV) (hg : ∃ a n c, g = .slice a n c) :
    Ret Tryd.prog 14 [.agg #[g, fs]] w0 fun v w' => ∃ b : Bool, v = .bool b ∧ Wd NoS w0 [] w' ∧ (b = false → light u) := by
  obtain ⟨ga, gn, gc, rfl⟩ := hg
  obtain ⟨fa, fn, fc, fb, fo, rfl, hfn, hfnc, hfnb, hfc, hfa, hfel⟩ := hf
  refine ret_enter Tryd.func14 rfl Tryd.ntmps14 rfl (Wd.nil NoS w0) ?_
  repeat (first | refine g_op rfl ?_ | refine g_then ?_ | refine g_nil ?_ | refine g_region ?_ | refine g_seq ?_ | refine g_box rfl fun _ _ => ?_ | refine g_block ?_)
  rename_i p1 _
  have noWd : ∀ w H, Wd NoS w0 H w → Wd NoS w0 [] w := fun w H hw => ⟨hw.chg, by simp, by simp, by simp⟩
  refine g_loop (fun (i : Nat) => i ≤ fn ∧ ∀ k X, k < i → u.funcs[k]? = some X → lightF X) (fun i => [(3, .int .i64 i), (2, .bool false), (1, .pointer (some ⟨p1, 0, none⟩))]) (fun _ => [Ent.box p1 [.slice ga gn gc, .slice fa fn fc] 25]) (fun i => fn - i) 0 ⟨Nat.zero_le _, by simp⟩ (g_done (by repeat (first | exact trivial | refine ⟨rfl, ?_⟩)) (List.Sublist.refl _)) fun i ⟨hi, hall⟩ => ?_
  repeat (first | refine g_op rfl ?_ | refine g_then ?_ | refine g_nil ?_ | refine g_region ?_ | refine g_seq ?_)
  refine g_cond (fun h1 => ?_) (fun h1 => ?_)
  · have hlt : i < fn := by simpa using h1
    obtain ⟨X, hX⟩ := get_lt hfn hlt
    have had : AddrIs fa fb fo := ⟨hfa (ne_of_get hX)⟩
    have hli : LtIs i fn := ⟨hlt⟩
    obtain ⟨cs, hcs, bv, rfl, hpi, hri, hbv⟩ := hfel i X hX
    obtain ⟨ba, n, bc, bb, bo', rfl, hn, hnc, hnb, hbc, hba, hel⟩ := hbv
    have hci : CellsIs w0 fb (fo + i * 4) _ := ⟨hcs⟩
    repeat (first | refine g_op rfl ?_ | refine g_then ?_ | refine g_nil ?_ | refine g_region ?_ | refine g_seq ?_ | refine g_block ?_ | refine g_skip ?_)
    refine g_loop (fun (x : Nat × Int) => x.1 ≤ n ∧ (n ≤ 24 → x.2 = sizeTo X.blocks x.1 ∧ x.2 ≤ x.1 * 281474976710656)) (fun x => [(5, .int .i64 x.1), (4, .int .i64 x.2), (3, .int .i64 i), (2, .bool false), (1, .pointer (some ⟨p1, 0, none⟩))]) (fun _ => [Ent.box p1 [.slice ga gn gc, .slice fa fn fc] 25]) (fun x => n - x.1) (0, 0) ⟨Nat.zero_le _, by simp [sizeTo]⟩ (g_done (by repeat (first | exact trivial | refine ⟨rfl, ?_⟩)) (List.Sublist.refl _)) fun x ⟨hj, hsum⟩ => ?_
    obtain ⟨j, s⟩ := x
    simp only at hj hsum ⊢
    repeat (first | refine g_op rfl ?_ | refine g_then ?_ | refine g_nil ?_ | refine g_region ?_ | refine g_seq ?_)
    refine g_cond (fun h2 => ?_) (fun h2 => ?_)
    · have hjlt : j < n := by simpa using h2
      obtain ⟨B, hB⟩ := get_lt hn hjlt
      have had2 : AddrIs ba bb bo' := ⟨hba (ne_of_get hB)⟩
      have hli2 : LtIs j n := ⟨hjlt⟩
      obtain ⟨cs2, hcs2, pv, lv, tv, rfl, _, _, hphis, hlist, ht⟩ := hel j B hB
      obtain ⟨pa', pn, pc, _, _, rfl, hpn, _, hpnb, _⟩ := hphis
      obtain ⟨la, ln, lc, _, _, rfl, hln, _, hlnb, _⟩ := hlist
      have hci2 : CellsIs w0 bb (bo' + j * 6) _ := ⟨hcs2⟩
      have hs1 := sizeTo_succ hB
      have hm1 := sizeTo_mono X.blocks j
      have hkey : n ≤ 24 → IntKind.i64.wrap (IntKind.i64.wrap (s + pn) + ln) = sizeTo X.blocks (j + 1) ∧ IntKind.i64.wrap (IntKind.i64.wrap (s + pn) + ln) ≤ ((j + 1 : Nat) : Int) * 281474976710656 := by
        intro h24
        obtain ⟨e1, e2⟩ := hsum h24
        rw [wrap_in (s + pn) (by omega) (by omega), wrap_in (s + pn + ln) (by omega) (by omega), hs1]
        constructor
        · rw [e1, hpn, hln]; omega
        · omega
      repeat (first | refine g_then ?_ | refine g_seq ?_ | refine g_block ?_ | refine g_skip ?_)
      refine g_draw mixed (by kernel_rfl) ?_
      repeat (refine q_op rfl ?_)
      refine q_addW rfl ?_
      repeat (refine q_op rfl ?_)
      refine q_addW rfl ?_
      repeat (first | refine q_opS rfl ?_ | refine q_nil ?_)
      repeat (first | refine g_op rfl ?_ | refine g_then ?_ | refine g_nil ?_ | refine g_region ?_ | refine g_opS rfl ?_ | refine g_inBlock ?_ | refine g_add rfl (by omega) (by omega) ?_)
      exact g_next (j + 1, IntKind.i64.wrap (IntKind.i64.wrap (s + pn) + ln)) ⟨hjlt, hkey⟩ (by simp only; omega) (by repeat (first | exact trivial | refine ⟨rfl, ?_⟩)) (List.Sublist.refl _)
    · have hge : j = n := by have := h2; simp at this; omega
      repeat (first | refine g_op rfl ?_ | refine g_then ?_ | refine g_region ?_ | refine g_seq ?_ | refine g_exit ?_ | refine g_thenExit ?_ | refine g_exitHere ?_)
      generalize hb1 : decide (24 < (n : Int)) = b1
      refine g_joinTo 60 (.bool (b1 || decide (120 < s))) ?_ ?_
      · cases b1
        · repeat (first | refine g_op rfl ?_ | refine g_then ?_ | refine g_nil ?_ | refine g_open ?_)
          exact g_done (by repeat (first | exact trivial | refine ⟨rfl, ?_⟩)) (List.Sublist.refl _)
        · repeat (first | refine g_op rfl ?_ | refine g_then ?_ | refine g_nil ?_ | refine g_pass rfl ?_)
          exact g_done (by repeat (first | exact trivial | refine ⟨rfl, ?_⟩)) (List.Sublist.refl _)
      repeat (first | refine g_then ?_ | refine g_nil ?_)
      refine g_cond (fun h3 => ?_) (fun h3 => ?_)
      · repeat (first | refine g_then ?_ | refine g_nil ?_ | refine g_region ?_ | refine g_seq ?_ | refine g_opS rfl ?_ | refine g_ret ?_ | refine g_thenRet ?_ | refine g_blockRet ?_)
        exact g_ret1 rfl fun w hw => ⟨_, rfl, noWd _ _ hw, by simp⟩
      · have h3' : n ≤ 24 ∧ s ≤ 120 := by subst hb1; simp at h3; omega
        repeat (first | refine g_op rfl ?_ | refine g_then ?_ | refine g_nil ?_ | refine g_region ?_ | refine g_opS rfl ?_ | refine g_inBlock ?_ | refine g_skip ?_ | refine g_add rfl (by omega) (by omega) ?_)
        refine g_next (i + 1) ⟨hlt, fun k Y hk hY => ?_⟩ (by omega) (by repeat (first | exact trivial | refine ⟨rfl, ?_⟩)) (List.Sublist.refl _)
        by_cases hki : k = i
        · subst hki
          rw [hX] at hY
          simp only [Option.some.injEq] at hY
          subst hY
          refine ⟨by omega, ?_⟩
          have := (hsum h3'.1).1
          rw [hge, hn, sizeTo_all] at this
          omega
        · exact hall k Y (by omega) hY
  · have hge : i = fn := by have := h1; simp at this; omega
    repeat (first | refine g_op rfl ?_ | refine g_then ?_ | refine g_nil ?_ | refine g_region ?_ | refine g_seq ?_ | refine g_opS rfl ?_ | refine g_exit ?_ | refine g_thenExit ?_ | refine g_exitHere ?_ | refine g_ret ?_)
    refine g_ret1 rfl fun w hw => ⟨_, rfl, noWd _ _ hw, fun hb => ⟨by simp at hb; omega, fun Y hY => ?_⟩⟩
    obtain ⟨k, hk⟩ := List.getElem?_of_mem hY
    exact hall k Y (by have := (List.getElem?_eq_some_iff.1 hk).1; omega) hk

def askedL (u : LUnit) (k : Int) : Int × Int := if (checkL u).1 ≠ 0 then checkL u else if k < 0 ∨ (u.funcs.length : Int) ≤ k then (3, -1) else (0, 0)
theorem firstI_snd {f : Nat → Int} {n : Nat} (h : (firstI f n).1 = 0) : firstI f n = (0, 0) := firstI_none (firstI_zero h)
theorem checkL_zero {u : LUnit} (h : (checkL u).1 = 0) : checkL u = (0, 0) := by
  unfold checkL at h ⊢
  split
  · rename_i h1; rw [if_pos h1] at h; cases h
  · rename_i h1; rw [if_neg h1] at h
    split
    · rename_i h2; rw [if_pos h2] at h; exact absurd h h2
    · rename_i h2; rw [if_neg h2] at h
      split
      · rename_i h3; rw [if_pos h3] at h; exact absurd h h3
      · rename_i h3; rw [if_neg h3] at h
        split
        · rename_i h4; rw [if_pos h4] at h; exact absurd h h4
        · rename_i h4; rw [if_neg h4] at h
          split
          · rename_i h5; rw [if_pos h5] at h; cases h
          · rename_i h5; rw [if_neg h5] at h
            split
            · rename_i h6; rw [if_pos h6] at h; cases h
            · rfl
theorem sameFault_c (code at' : Int) (w0 : World) : RetV Tryd.prog 41 [.int .i64 code, .int .i64 at'] w0 (.agg #[.int .i64 code, .int .i64 at']) := by
  refine ret_enter Tryd.func41 rfl Tryd.ntmps41 rfl (Wd.nil NoS w0) ?_
  repeat (first | refine g_op rfl ?_ | refine g_then ?_ | refine g_nil ?_ | refine g_region ?_ | refine g_seq ?_ | refine g_alloc rfl fun _ _ => ?_ | refine g_storeAgg ?_ | refine g_ret ?_)
  exact g_retC rfl fun _ hw => ⟨rfl, hw.chg⟩
theorem asked_c (u : LUnit) (hl : light u) (k : Int) (g fs : Value) (w0 : World) (hg : SlAt w0 g 3 u.globals GlobalV) (hf : SlAt w0 fs 4 u.funcs FuncV) (hways : CellsAt w0 0 0 waysC) :
    RetV Tryd.prog 16 [.agg #[g, fs], .int .i64 k] w0 (.agg #[.int .i64 (askedL u k).1, .int .i64 (askedL u k).2]) := by
  have hg0 := hg
  have hf0 := hf
  obtain ⟨ga, gn, gc, gb, go, rfl, _⟩ := hg
  obtain ⟨fa, fn, fc, fb, fo, rfl, hfn, _⟩ := hf
  refine ret_enter Tryd.func16 rfl Tryd.ntmps16 rfl (Wd.nil NoS w0) ?_
  repeat (first | refine g_op rfl ?_ | refine g_then ?_ | refine g_nil ?_ | refine g_region ?_ | refine g_seq ?_ | refine g_box rfl fun _ _ => ?_ | refine g_alloc rfl fun _ _ => ?_)
  refine g_callV rfl (fun w hw => check_c u hl _ _ w (hg0.keep keeps_global hw.chg) (hf0.keep keeps_func hw.chg) (hways.keep hw.chg)) ?_
  repeat (first | refine g_op rfl ?_ | refine g_then ?_ | refine g_nil ?_ | refine g_region ?_ | refine g_seq ?_ | refine g_alloc rfl fun _ _ => ?_ | refine g_storeAgg ?_)
  refine g_cond (fun h1 => ?_) (fun h1 => ?_)
  · repeat (first | refine g_op rfl ?_ | refine g_then ?_ | refine g_nil ?_ | refine g_region ?_ | refine g_seq ?_ | refine g_storeAgg ?_ | refine g_ret ?_ | refine g_thenRet ?_)
    refine g_retC rfl fun _ hw => ⟨?_, hw.chg⟩
    rw [askedL, if_pos (by simpa using h1)]
  have h1' : ¬ (checkL u).1 ≠ 0 := by simpa using h1
  repeat (first | refine g_op rfl ?_ | refine g_then ?_ | refine g_region ?_ | refine g_seq ?_ | refine g_skip ?_)
  generalize hb1 : decide (k < 0) = b1
  refine g_joinTo 20 (.bool (b1 || decide ((fn : Int) ≤ k))) ?_ ?_
  · cases b1
    · repeat (first | refine g_op rfl ?_ | refine g_then ?_ | refine g_nil ?_ | refine g_open ?_)
      exact g_done (by repeat (first | exact trivial | refine ⟨rfl, ?_⟩)) (List.Sublist.refl _)
    · repeat (first | refine g_op rfl ?_ | refine g_then ?_ | refine g_nil ?_ | refine g_pass rfl ?_)
      exact g_done (by repeat (first | exact trivial | refine ⟨rfl, ?_⟩)) (List.Sublist.refl _)
  repeat (first | refine g_then ?_ | refine g_nil ?_)
  refine g_cond (fun h2 => ?_) (fun h2 => ?_)
  · repeat (first | refine g_region ?_ | refine g_seq ?_)
    refine g_callV rfl (fun w _ => sameFault_c _ _ w) ?_
    repeat (first | refine g_then ?_ | refine g_nil ?_ | refine g_storeAgg ?_ | refine g_ret ?_ | refine g_thenRet ?_)
    refine g_retC rfl fun _ hw => ⟨?_, hw.chg⟩
    rw [askedL, if_neg h1', if_pos (by subst hb1; rw [← hfn]; simpa using h2)]
  · repeat (first | refine g_op rfl ?_ | refine g_then ?_ | refine g_nil ?_ | refine g_region ?_ | refine g_seq ?_ | refine g_storeAgg ?_ | refine g_skip ?_ | refine g_ret ?_)
    refine g_retC rfl fun _ hw => ⟨?_, hw.chg⟩
    rw [askedL, if_neg h1', if_neg (by subst hb1; rw [← hfn]; simpa using h2)]

def zeroFn : Value := .agg #[.string ByteArray.empty, .int .i64 0, .int .i64 0, .slice none 0 0]
theorem func_bad (u : LUnit) (hl : light u) (k : Int) (_hk : inI k) (hbad : (askedL u k).1 ≠ 0) (g fs : Value) (w0 : World) (hg : SlAt w0 g 3 u.globals GlobalV) (hf : SlAt w0 fs 4 u.funcs FuncV) (hways : CellsAt w0 0 0 waysC) :
    RetV Tryd.prog 44 [.agg #[g, fs], .int .i64 k] w0 (.tuple #[zeroFn, .agg #[.int .i64 (askedL u k).1, .int .i64 (askedL u k).2]]) := by
  have hg0 := hg
  have hf0 := hf
  obtain ⟨ga, gn, gc, gb, go, rfl, _⟩ := hg
  obtain ⟨fa, fn, fc, fb, fo, rfl, hfn, hfnc, hfnb, _⟩ := hf
  refine ret_enter Tryd.func44 rfl Tryd.ntmps44 rfl (Wd.nil NoS w0) ?_
  repeat (first | refine g_op rfl ?_ | refine g_then ?_ | refine g_nil ?_ | refine g_region ?_ | refine g_seq ?_ | refine g_box rfl fun _ _ => ?_ | refine g_alloc rfl fun _ _ => ?_)
  rename_i p2 _ p4 _ p5 _
  refine g_callV rfl (fun w hw => check_c u hl _ _ w (hg0.keep keeps_global hw.chg) (hf0.keep keeps_func hw.chg) (hways.keep hw.chg)) ?_
  repeat (first | refine g_op rfl ?_ | refine g_then ?_ | refine g_nil ?_ | refine g_region ?_ | refine g_seq ?_ | refine g_alloc rfl fun _ _ => ?_ | refine g_storeAgg ?_)
  rename_i p6 _
  refine g_cond (fun h1 => ?_) (fun h1 => ?_)
  · have hne : (checkL u).1 ≠ 0 := by
      intro h0
      rw [checkL_zero h0] at h1
      simp at h1
    repeat (refine g_seq ?_)
    refine g_drawW [(4, .pointer (some ⟨p4, 0, none⟩)), (5, .pointer (some ⟨p5, 0, none⟩))] [Ent.box p5 [.int .i64 (checkL u).1, .int .i64 (checkL u).2] 29, Ent.box p4 [.string ByteArray.empty, .int .i64 0, .int .i64 0, .slice none 0 0] 35] mixed ?_ ?_
    · repeat' (first | refine g_any0 (by decide +kernel) ?_ | refine g_any (by decide +kernel) ?_ | refine any_nil | refine any_skip (by decide +kernel) ?_ | refine any_cons ?_ ?_ | refine g_op rfl ?_ | refine g_then ?_ | refine g_nil ?_ | refine g_storeAgg ?_)
      all_goals exact g_done (by repeat (first | exact trivial | refine ⟨rfl, ?_⟩)) (by simp)
    · repeat (first | refine g_then ?_ | refine g_ret ?_ | refine g_thenRet ?_)
      refine g_retCC rfl fun _ hw => ⟨?_, hw.chg⟩
      rw [askedL, if_pos hne]
      rfl
  have h1' : ¬ (checkL u).1 ≠ 0 := by simp at h1; omega
  repeat (first | refine g_op rfl ?_ | refine g_then ?_ | refine g_region ?_ | refine g_seq ?_ | refine g_skip ?_ | refine g_sub rfl (by omega) (by omega) ?_)
  refine g_callV rfl (fun w _ => within_c _ _ _ w) ?_
  repeat (first | refine g_op rfl ?_ | refine g_then ?_ | refine g_nil ?_)
  have hb : k < 0 ∨ (u.funcs.length : Int) ≤ k := by
    by_cases hb : k < 0 ∨ (u.funcs.length : Int) ≤ k
    · exact hb
    · exact absurd (by rw [askedL, if_neg h1', if_neg hb]) hbad
  have hw : within k 0 ((fn : Int) - 1) = false := by simp [within]; omega
  refine g_cond (fun h2 => ?_) (fun h2 => ?_)
  · repeat (first | refine g_op rfl ?_ | refine g_region ?_ | refine g_seq ?_)
    refine g_callV rfl (fun w _ => fault_c _ _ w) ?_
    repeat (first | refine g_then ?_ | refine g_nil ?_ | refine g_storeAgg ?_ | refine g_ret ?_ | refine g_thenRet ?_)
    refine g_retCC rfl fun _ hw => ⟨?_, hw.chg⟩
    rw [askedL, if_neg h1', if_pos hb]
    rfl
  · rw [hw] at h2; cases h2
theorem func_ok (u : LUnit) (hl : light u) (k : Nat) (hgood : (askedL u k).1 = 0) (g fs : Value) (X : LFunc) (hX : u.funcs[k]? = some X) (w0 : World) (hg : SlAt w0 g 3 u.globals GlobalV) (hf : SlAt w0 fs 4 u.funcs FuncV) (hways : CellsAt w0 0 0 waysC) :
    ∃ bv, SlAt w0 bv 6 X.blocks BlockV ∧ ∀ w, Chg NoS w0 w → RetV Tryd.prog 44 [.agg #[g, fs], .int .i64 k] w (.tuple #[.agg #[.string X.name, .int .i64 X.params, .int .i64 X.regs, bv], .agg #[.int .i64 0, .int .i64 0]]) := by
  have hg0 := hg
  have hf0 := hf
  obtain ⟨ga, gn, gc, gb, go, rfl, _⟩ := hg
  obtain ⟨fa, fn, fc, fb, fo, rfl, hfn, hfnc, hfnb, hfc, hfa, hfel⟩ := hf
  have hkl : k < fn := by rw [hfn]; exact (List.getElem?_eq_some_iff.1 hX).1
  have had : AddrIs fa fb fo := ⟨hfa (ne_of_get hX)⟩
  have hli : LtIs k fn := ⟨hkl⟩
  obtain ⟨cs, hcs, bv, rfl, hpi, hri, hbv⟩ := hfel k X hX
  refine ⟨bv, hbv, fun w1 hch => ?_⟩
  have hci : CellsIs w1 fb (fo + k * 4) _ := ⟨hcs.keep hch⟩
  obtain ⟨ba, bn, bc, _, _, rfl, _⟩ := hbv
  have h1' : (checkL u).1 = 0 := by
    by_cases h : (checkL u).1 = 0
    · exact h
    · rw [askedL, if_pos h] at hgood; exact hgood
  refine ret_enter Tryd.func44 rfl Tryd.ntmps44 rfl (Wd.nil NoS w1) ?_
  repeat (first | refine g_op rfl ?_ | refine g_then ?_ | refine g_nil ?_ | refine g_region ?_ | refine g_seq ?_ | refine g_box rfl fun _ _ => ?_ | refine g_alloc rfl fun _ _ => ?_)
  refine g_callV rfl (fun w hw => check_c u hl _ _ w (hg0.keep keeps_global (hch.trans hw.chg)) (hf0.keep keeps_func (hch.trans hw.chg)) (hways.keep (hch.trans hw.chg))) ?_
  rw [checkL_zero h1']
  repeat (first | refine g_op rfl ?_ | refine g_then ?_ | refine g_nil ?_ | refine g_region ?_ | refine g_seq ?_ | refine g_alloc rfl fun _ _ => ?_ | refine g_storeAgg ?_ | refine g_skip ?_ | refine g_condF ?_ | refine g_sub rfl (by omega) (by omega) ?_)
  refine g_callV rfl (fun w _ => within_c _ _ _ w) ?_
  repeat (first | refine g_op rfl ?_ | refine g_then ?_ | refine g_nil ?_)
  have hw : within (k : Int) 0 ((fn : Int) - 1) = true := by simp [within]; omega
  refine g_cond (fun h2 => ?_) (fun h2 => ?_)
  · rw [hw] at h2; cases h2
  · repeat (first | refine g_op rfl ?_ | refine g_then ?_ | refine g_nil ?_ | refine g_region ?_ | refine g_seq ?_ | refine g_storeAgg ?_ | refine g_skip ?_ | refine g_ret ?_)
    refine g_retCC rfl fun _ hw => ⟨rfl, hw.chg⟩
end Go.Proofs.YtebajiafdkokjaaDoor

/- Reaching in a function's graph, as plain facts about lists. No program in sight. -/
namespace Go.Proofs.YtebajiafdkokjaaDoor
open Go Go.RowKit

def toOf (bl : List LBlock) (i : Nat) : List Int := match bl[i]? with | some b => b.to | none => []
def Edge (bl : List LBlock) (x y : Nat) : Prop := (y : Int) ∈ toOf bl x
/-- from b to a block, never through 'wo' -/
inductive Rch (bl : List LBlock) (wo : Int) (b : Nat) : Nat → Prop
  | refl : Rch bl wo b b
  | step {x y : Nat} : Rch bl wo b x → Edge bl x y → (y : Int) ≠ wo → Rch bl wo b y
theorem Rch.trans {bl : List LBlock} {wo : Int} {a b c : Nat} (h : Rch bl wo a b) (k : Rch bl wo b c) : Rch bl wo a c := by
  induction k with
  | refl => exact h
  | step _ he hw ih => exact ih.step he hw
theorem toOf_get {bl : List LBlock} {i : Nat} {b : LBlock} (h : bl[i]? = some b) : toOf bl i = b.to := by simp [toOf, h]
def GoodB (bl : List LBlock) : Prop := ∀ b ∈ bl, b.to.length ≤ 2 ∧ ∀ t ∈ b.to, 0 ≤ t ∧ t < bl.length
theorem GoodB.edge {bl : List LBlock} (h : GoodB bl) {x y : Nat} (he : Edge bl x y) : y < bl.length := by
  unfold Edge toOf at he
  split at he
  · rename_i b hb
    have := (h b (List.mem_of_getElem? hb)).2 _ he
    omega
  · cases he
theorem GoodB.rch {bl : List LBlock} (h : GoodB bl) {wo : Int} {b x : Nat} (hb : b < bl.length) (hr : Rch bl wo b x) : x < bl.length := by
  induction hr with
  | refl => exact hb
  | step _ he _ _ => exact h.edge he
/-- what begins at b and is closed holds all that b reaches -/
theorem rch_closed {bl : List LBlock} {wo : Int} {b : Nat} {p : Nat → Prop} (h0 : p b) (hc : ∀ x y, p x → Edge bl x y → (y : Int) ≠ wo → p y) {x : Nat} (h : Rch bl wo b x) : p x := by
  induction h with
  | refl => exact h0
  | step _ he hw ih => exact hc _ _ ih he hw
theorem nodup_len : ∀ (n : Nat) (l : List Nat), l.Nodup → (∀ x ∈ l, x < n) → l.length ≤ n
  | 0, l, _, h => by
    cases l with
    | nil => simp
    | cons x l => have := h x (by simp); omega
  | n + 1, l, hn, h => by
    by_cases hm : n ∈ l
    · have h1 := nodup_len n (l.erase n) (hn.erase n) fun x hx => by
        have := (hn.mem_erase_iff).1 hx
        have := h x this.2
        omega
      rw [List.length_erase_of_mem hm] at h1
      omega
    · have := nodup_len n l hn fun x hx => by
        have h1 := h x hx
        have : x ≠ n := fun e => hm (e ▸ hx)
        omega
      omega
open Classical in
noncomputable def seenOf (bl : List LBlock) (b : Nat) : List Bool := (List.range bl.length).map fun x => decide (Rch bl (-1) b x)
open Classical in
theorem seenOf_get {bl : List LBlock} {b x : Nat} (h : x < bl.length) : (seenOf bl b)[x]? = some (decide (Rch bl (-1) b x)) := by simp [seenOf, h]
theorem seenOf_length (bl : List LBlock) (b : Nat) : (seenOf bl b).length = bl.length := by simp [seenOf]
def Mut (bl : List LBlock) (b c : Nat) : Prop := Rch bl (-1) b c ∧ Rch bl (-1) c b
open Classical in
noncomputable def partOf (bl : List LBlock) (b : Nat) : Nat := ((List.range bl.length).find? fun c => decide (Mut bl b c)).getD b
theorem partOf_eq {bl : List LBlock} {b c : Nat} (hc : c < bl.length) (h : Mut bl b c) (hlt : ∀ d, d < c → ¬ Mut bl b d) : partOf bl b = c := by
  classical
  have e : (List.range bl.length).find? (fun c => decide (Mut bl b c)) = some c := by
    rw [List.find?_range_eq_some]
    exact ⟨by simpa using h, by simpa using hc, fun j hj => by simpa using hlt j hj⟩
  unfold partOf
  rw [e]; rfl
def unseen (l : List Bool) : Nat := l.count false
theorem unseen_set {l : List Bool} {i : Nat} (h : l[i]? = some false) : unseen (l.set i true) + 1 = unseen l := by
  induction l generalizing i with
  | nil => simp at h
  | cons x l ih =>
    cases i with
    | zero =>
      simp only [List.getElem?_cons_zero, Option.some.injEq] at h
      subst h
      simp [unseen]
    | succ i =>
      simp only [List.getElem?_cons_succ] at h
      have := ih h
      simp only [unseen, List.set_cons_succ, List.count_cons] at this ⊢
      omega
end Go.Proofs.YtebajiafdkokjaaDoor

/- graph.From: which blocks a block reaches. -/
namespace Go.Proofs.YtebajiafdkokjaaDoor
open Go Go.RowKit
attribute [local irreducible] wpListIn Code.wpIn Exit.then Exit.inBlock bodyPost wpQuiet wpAnyIn
set_option maxHeartbeats 2000000

def intN (x : Nat) : Value := .int .i64 (x : Int)
theorem graphFrom_c (nm pa re : Value) (bl : List LBlock) (bs : Value) (b : Nat) (w0 : World) (hbs : SlAt w0 bs 6 bl BlockV) (hlen : bl.length ≤ 100) (hok : GoodB bl) (hb : b < bl.length) :
    Ret Tryd.prog 45 [.agg #[nm, pa, re, bs], .int .i64 b] w0 fun u w' => ∃ p : Nat, u = .slice (some ⟨p, 0, none⟩) bl.length bl.length ∧ Wd NoS w0 [Ent.vec (some ⟨p, 0, none⟩) bl.length bl.length 4 1 ((seenOf bl b).map .bool)] w' ∧ True := by
  obtain ⟨ba, n, bc, bb, bo', rfl, hn, hnc, hnb, hbc, hba, hel⟩ := hbs
  rw [← hn] at hb hlen ⊢
  refine ret_enter Tryd.func45 rfl Tryd.ntmps45 rfl (Wd.nil NoS w0) ?_
  have hli0 : LtIs b n := ⟨hb⟩
  repeat (first | refine g_op rfl ?_ | refine g_then ?_ | refine g_nil ?_ | refine g_region ?_ | refine g_seq ?_ | refine g_box rfl fun _ _ => ?_ | refine g_make rfl (by omega) (by omega) fun _ _ => ?_)
  rename_i p2 _ p5 _
  rw [show List.replicate n (Value.bool false) = (List.replicate n false).map Value.bool by simp]
  have hea : ElAt (List.replicate n false) b false := ⟨by simp [hb]⟩
  repeat (first | refine g_op rfl ?_ | refine g_then ?_ | refine g_nil ?_ | refine g_region ?_ | refine g_seq ?_ | refine g_block ?_ | refine g_storeV ?_ | refine g_build1 rfl rfl fun _ _ => ?_)
  rename_i p6 _
  refine g_loop (fun (x : List Bool × List Nat × Option Addr × Nat) => x.1.length = n ∧ (∀ y, x.1[y]? = some true → Rch bl (-1) b y) ∧ x.1[b]? = some true ∧ (∀ y ∈ x.2.1, x.1[y]? = some true) ∧ (∀ y, x.1[y]? = some true → y ∈ x.2.1 ∨ ∀ z, Edge bl y z → x.1[z]? = some true) ∧ unseen x.1 + x.2.1.length ≤ n + 1)
    (fun x => [(6, .slice x.2.2.1 x.2.1.length x.2.2.2), (5, .slice (some ⟨p5, 0, none⟩) n n), (2, .pointer (some ⟨p2, 0, none⟩))])
    (fun x => [Ent.vec x.2.2.1 x.2.1.length x.2.2.2 3 1 (x.2.1.map intN), Ent.vec (some ⟨p5, 0, none⟩) n n 4 1 (x.1.map .bool), Ent.box p2 [nm, pa, re, .slice ba n bc] 35])
    (fun x => unseen x.1 + x.2.1.length) ((List.replicate n false).set b true, [b], some ⟨p6, 0, none⟩, 1) ⟨by simp, ?_, by simp [hb], by simp [hb], ?_, ?_⟩ (g_done (by repeat (first | exact trivial | refine ⟨rfl, ?_⟩)) (List.Sublist.refl _)) fun x ⟨hsl, hsr, hsb, hrs, hcl, hun⟩ => ?_
  · intro y hy
    simp only [List.getElem?_set, List.length_replicate, List.getElem?_replicate] at hy
    by_cases hyb : b = y
    · subst hyb; exact Rch.refl
    · rw [if_neg hyb] at hy
      split at hy <;> cases hy
  · intro y hy
    simp only [List.getElem?_set, List.length_replicate, List.getElem?_replicate] at hy
    by_cases hyb : b = y
    · subst hyb; simp
    · rw [if_neg hyb] at hy
      split at hy <;> cases hy
  · have := unseen_set (l := List.replicate n false) (i := b) (by simp [hb])
    have h2 : unseen (List.replicate n false) = n := by simp [unseen]
    simp only [List.length_singleton]; omega
  obtain ⟨seen, row, ra, rc⟩ := x
  simp only at hsl hsr hsb hrs hcl hun ⊢
  repeat (first | refine g_op rfl ?_ | refine g_then ?_ | refine g_nil ?_ | refine g_region ?_ | refine g_seq ?_)
  refine g_cond (fun h1 => ?_) (fun h1 => ?_)
  · obtain ⟨x0, rest, rfl⟩ : ∃ x0 rest, row = x0 :: rest := by
      cases row with
      | nil => simp at h1
      | cons x0 rest => exact ⟨x0, rest, rfl⟩
    refine g_vec 0 rfl (by simp) fun rb ro hra => ?_
    subst hra
    have hx0s := hrs x0 (by simp)
    have hx0 : x0 < n := by rw [← hsl]; exact (List.getElem?_eq_some_iff.1 hx0s).1
    obtain ⟨B, hB⟩ := get_lt hn hx0
    have had : AddrIs ba bb bo' := ⟨hba (ne_of_get hB)⟩
    have hli : LtIs x0 n := ⟨hx0⟩
    have hli1 : LtIs 0 (x0 :: rest).length := ⟨by simp⟩
    obtain ⟨cs, hcs, pv, lv, tv, rfl, _, _, _, _, ht⟩ := hel x0 B hB
    obtain ⟨ta, tn, tc, tb, to', rfl, htn, htnc, htnb, htc, hta, htel⟩ := ht
    have hci : CellsIs w0 bb (bo' + x0 * 6) _ := ⟨hcs⟩
    have hBok := hok B (List.mem_of_getElem? hB)
    have hxat : XAt ((x0 :: rest).map intN) (0 * 1) (.int .i64 (x0 : Int)) := ⟨rfl⟩
    repeat (first | refine g_then ?_ | refine g_seq ?_ | refine g_block ?_ | refine g_skip ?_)
    refine g_draw mixed (by kernel_rfl) ?_
    repeat (first | refine q_op rfl ?_ | refine q_nil ?_)
    repeat (first | refine g_then ?_ | refine g_block ?_)
    refine g_loop (fun (x : Nat × List Bool × List Nat × Option Addr × Nat) => x.1 ≤ tn ∧ x.2.1.length = n ∧ (∀ y, x.2.1[y]? = some true → Rch bl (-1) b y) ∧ x.2.1[b]? = some true ∧ (∀ y ∈ x.2.2.1, x.2.1[y]? = some true) ∧ (∀ y, x.2.1[y]? = some true → y ∈ x.2.2.1 ∨ ∀ z, Edge bl y z → x.2.1[z]? = some true) ∧ unseen x.2.1 + x.2.2.1.length = unseen seen + (x0 :: rest).length ∧ (∃ r', x.2.2.1 = x0 :: r') ∧ ∀ k t, k < x.1 → B.to[k]? = some t → x.2.1[t.toNat]? = some true)
      (fun x => [(33, .int .i64 x.1), (31, .slice ta tn tc), (32, .int .i64 tn), (6, .slice x.2.2.2.1 x.2.2.1.length x.2.2.2.2), (5, .slice (some ⟨p5, 0, none⟩) n n), (2, .pointer (some ⟨p2, 0, none⟩))])
      (fun x => [Ent.vec x.2.2.2.1 x.2.2.1.length x.2.2.2.2 3 1 (x.2.2.1.map intN), Ent.vec (some ⟨p5, 0, none⟩) n n 4 1 (x.2.1.map .bool), Ent.box p2 [nm, pa, re, .slice ba n bc] 35])
      (fun x => tn - x.1) (0, seen, x0 :: rest, some ⟨rb, ro, none⟩, rc) ⟨Nat.zero_le _, hsl, hsr, hsb, hrs, hcl, rfl, ⟨rest, rfl⟩, by simp⟩ (g_done (by repeat (first | exact trivial | refine ⟨rfl, ?_⟩)) (List.Sublist.refl _)) fun x ⟨hj, hsl', hsr', hsb', hrs', hcl', hun', ⟨r', hr'⟩, hdone⟩ => ?_
    obtain ⟨j, seen', row', ra', rc'⟩ := x
    simp only at hj hsl' hsr' hsb' hrs' hcl' hun' hr' hdone ⊢
    repeat (first | refine g_op rfl ?_ | refine g_then ?_ | refine g_nil ?_ | refine g_region ?_ | refine g_seq ?_)
    refine g_cond (fun h2 => ?_) (fun h2 => ?_)
    · have hjlt : j < tn := by simpa using h2
      obtain ⟨t, htj⟩ := get_lt htn hjlt
      have htt := hBok.2 t (List.mem_of_getElem? htj)
      obtain ⟨k, hk⟩ : ∃ k : Nat, t = k := ⟨t.toNat, by omega⟩
      have hkn : k < n := by omega
      have had2 : AddrIs ta tb to' := ⟨hta (ne_of_get htj)⟩
      have hli2 : LtIs j tn := ⟨hjlt⟩
      have hli3 : LtIs k n := ⟨hkn⟩
      have hni : NatIs t k := ⟨hk⟩
      obtain ⟨cs2, hcs2, rfl, _⟩ := htel j t htj
      have hci2 : CellsIs w0 tb (to' + j * 1) _ := ⟨hcs2⟩
      obtain ⟨sv, hsv⟩ : ∃ sv, seen'[k]? = some sv := ⟨_, List.getElem?_eq_getElem (by omega)⟩
      have hea : ElAt seen' k sv := ⟨hsv⟩
      have hedge : Edge bl x0 k := by
        unfold Edge
        rw [toOf_get hB, ← hk]
        exact List.mem_of_getElem? htj
      have hrk : Rch bl (-1) b k := (hsr' x0 (hrs' x0 (by rw [hr']; simp))).step hedge (by omega)
      cases sv
      · repeat (first | refine g_op rfl ?_ | refine g_then ?_ | refine g_nil ?_ | refine g_region ?_ | refine g_seq ?_ | refine g_block ?_ | refine g_skip ?_ | refine g_condT ?_ | refine g_storeV ?_ | refine g_build1 rfl rfl fun _ _ => ?_)
        refine g_append rfl rfl (by omega) (by omega) fun a' c' => ?_
        rw [show row'.map intN ++ [.int .i64 t] = (row' ++ [k]).map intN by simp [intN, hk]]
        rw [show row'.length + 1 = (row' ++ [k]).length by simp]
        repeat (first | refine g_then ?_ | refine g_nil ?_ | refine g_region ?_ | refine g_opS rfl ?_ | refine g_inBlock ?_ | refine g_add rfl (by omega) (by omega) ?_)
        have hus := unseen_set hsv
        have hset : ∀ y, (seen'.set k true)[y]? = some true ↔ (y = k ∨ seen'[y]? = some true) := by
          intro y
          rw [List.getElem?_set]
          by_cases hyk : k = y
          · subst hyk; simp [show k < seen'.length by omega]
          · rw [if_neg hyk]; simp [Ne.symm hyk]
        refine g_next (j + 1, seen'.set k true, row' ++ [k], a', c') ⟨hjlt, by simpa using hsl', ?_, ?_, ?_, ?_, ?_, ⟨r' ++ [k], by rw [hr']; rfl⟩, ?_⟩ (by simp only; omega) (by repeat (first | exact trivial | refine ⟨rfl, ?_⟩)) (List.Sublist.cons _ (List.Sublist.refl _))
        · intro y hy
          rcases (hset y).1 hy with rfl | hy
          · exact hrk
          · exact hsr' y hy
        · exact (hset b).2 (.inr hsb')
        · intro y hy
          rcases List.mem_append.1 hy with hy | hy
          · exact (hset y).2 (.inr (hrs' y hy))
          · exact (hset y).2 (.inl (by simpa using hy))
        · intro y hy
          rcases (hset y).1 hy with rfl | hy
          · left; simp
          · rcases hcl' y hy with h | h
            · left; simp [h]
            · right; intro z hz; exact (hset z).2 (.inr (h z hz))
        · simp only [List.length_append, List.length_singleton]; omega
        · intro q t' hq ht'
          by_cases hqj : q = j
          · subst hqj
            rw [htj] at ht'
            simp only [Option.some.injEq] at ht'
            subst ht'
            exact (hset _).2 (.inl (by omega))
          · exact (hset _).2 (.inr (hdone q t' (by simp only at hq; omega) ht'))
      · repeat (first | refine g_op rfl ?_ | refine g_then ?_ | refine g_nil ?_ | refine g_region ?_ | refine g_seq ?_ | refine g_opS rfl ?_ | refine g_inBlock ?_ | refine g_block ?_ | refine g_skip ?_ | refine g_condF ?_ | refine g_add rfl (by omega) (by omega) ?_)
        refine g_next (j + 1, seen', row', ra', rc') ⟨hjlt, hsl', hsr', hsb', hrs', hcl', hun', ⟨r', hr'⟩, ?_⟩ (by simp only; omega) (by repeat (first | exact trivial | refine ⟨rfl, ?_⟩)) (List.Sublist.refl _)
        intro q t' hq ht'
        by_cases hqj : q = j
        · subst hqj
          rw [htj] at ht'
          simp only [Option.some.injEq] at ht'
          subst ht'
          rw [hk]; simpa using hsv
        · exact hdone q t' (by simp only at hq; omega) ht'
    · have hge : j = tn := by have := h2; simp at this; omega
      subst hr'
      repeat (first | refine g_op rfl ?_ | refine g_then ?_ | refine g_region ?_ | refine g_inBlock ?_ | refine g_exit ?_ | refine g_thenExit ?_ | refine g_exitHere ?_)
      refine g_tail rfl (by simp) fun a' => ?_
      repeat (first | refine g_then ?_ | refine g_nil ?_ | refine g_opS rfl ?_)
      refine g_next (seen', r', a', rc' - 1) ⟨hsl', hsr', hsb', fun y hy => hrs' y (by simp [hy]), fun y hy => ?_, ?_⟩ ?_ (by repeat (first | exact trivial | refine ⟨rfl, ?_⟩)) (List.Sublist.refl _)
      · rcases hcl' y hy with h | h
        · rcases List.mem_cons.1 h with rfl | h
          · right
            intro z hz
            unfold Edge at hz
            rw [toOf_get hB] at hz
            obtain ⟨q, hq⟩ := List.getElem?_of_mem hz
            have := hdone q _ (by have := (List.getElem?_eq_some_iff.1 hq).1; omega) hq
            simpa using this
          · exact .inl h
        · exact .inr h
      · simp only [List.length_cons] at hun' hun ⊢; omega
      · simp only [List.length_cons] at hun' ⊢; omega
  · have hrow : row = [] := by
      cases row with
      | nil => rfl
      | cons x r => simp at h1
    subst hrow
    have hfin : seen = seenOf bl b := by
      classical
      apply List.ext_getElem?
      intro y
      by_cases hy : y < n
      · rw [seenOf_get (by omega)]
        obtain ⟨sv, hsv⟩ : ∃ sv, seen[y]? = some sv := ⟨_, List.getElem?_eq_getElem (by omega)⟩
        rw [hsv]
        congr 1
        cases sv
        · symm
          rw [decide_eq_false_iff_not]
          intro hr
          have := rch_closed (p := fun y => seen[y]? = some true) hsb (fun x y hx he _ => (hcl x hx).elim (fun h => by cases h) fun h => h y he) hr
          rw [hsv] at this
          cases this
        · symm
          rw [decide_eq_true_eq]
          exact hsr y hsv
      · rw [List.getElem?_eq_none (by omega), List.getElem?_eq_none (by rw [seenOf_length]; omega)]
    repeat (first | refine g_op rfl ?_ | refine g_then ?_ | refine g_nil ?_ | refine g_region ?_ | refine g_seq ?_ | refine g_exit ?_ | refine g_thenExit ?_ | refine g_exitHere ?_ | refine g_ret ?_)
    refine g_ret1 rfl fun w hw => ⟨p5, rfl, ?_, trivial⟩
    rw [← hfin]
    exact hw.sub (List.Sublist.cons _ (List.Sublist.cons_cons _ (List.Sublist.cons _ (List.Sublist.refl _))))
end Go.Proofs.YtebajiafdkokjaaDoor

/- turneryref3.Has, From and Part: what each returns. -/
namespace Go.Proofs.YtebajiafdkokjaaDoor
open Go Go.RowKit
attribute [local irreducible] wpListIn Code.wpIn Exit.then Exit.inBlock bodyPost wpQuiet wpAnyIn
set_option maxHeartbeats 2000000

theorem has_c (v : Value) (l : List Int) (x : Int) (w0 : World) (hv : SlAt w0 v 1 l IntV) : RetV Tryd.prog 20 [v, .int .i64 x] w0 (.bool (decide (x ∈ l))) := by
  obtain ⟨a, n, c, b, o, rfl, hn, hnc, hnb, hc, ha, hel⟩ := hv
  refine ret_enter Tryd.func20 rfl Tryd.ntmps20 rfl (Wd.nil NoS w0) ?_
  repeat (first | refine g_op rfl ?_ | refine g_then ?_ | refine g_nil ?_ | refine g_region ?_ | refine g_seq ?_ | refine g_block ?_)
  refine g_loop (fun (i : Nat) => i ≤ n ∧ ∀ j t, j < i → l[j]? = some t → t ≠ x) (fun i => [(5, .int .i64 i), (0, .slice a n c), (1, .int .i64 x)]) (fun _ => []) (fun i => n - i) 0 ⟨Nat.zero_le _, by simp⟩ (g_done (by repeat (first | exact trivial | refine ⟨rfl, ?_⟩)) (by simp)) fun i ⟨hi, hall⟩ => ?_
  repeat (first | refine g_op rfl ?_ | refine g_then ?_ | refine g_nil ?_ | refine g_region ?_ | refine g_seq ?_)
  refine g_cond (fun h1 => ?_) (fun h1 => ?_)
  · have hlt : i < n := by simpa using h1
    obtain ⟨t, ht⟩ := get_lt hn hlt
    have had : AddrIs a b o := ⟨ha (ne_of_get ht)⟩
    have hli : LtIs i n := ⟨hlt⟩
    obtain ⟨cs, hcs, rfl, _⟩ := hel i t ht
    have hci : CellsIs w0 b (o + i * 1) _ := ⟨hcs⟩
    repeat (first | refine g_op rfl ?_ | refine g_then ?_ | refine g_nil ?_ | refine g_region ?_ | refine g_seq ?_ | refine g_block ?_ | refine g_skip ?_)
    refine g_cond (fun h2 => ?_) (fun h2 => ?_)
    · repeat (first | refine g_op rfl ?_ | refine g_then ?_ | refine g_nil ?_ | refine g_region ?_ | refine g_seq ?_ | refine g_ret ?_ | refine g_thenRet ?_ | refine g_blockRet ?_)
      refine g_retV rfl ?_
      have : t = x := by simpa using h2
      rw [decide_eq_true (this ▸ List.mem_of_getElem? ht)]
    · repeat (first | refine g_op rfl ?_ | refine g_then ?_ | refine g_nil ?_ | refine g_region ?_ | refine g_opS rfl ?_ | refine g_inBlock ?_ | refine g_skip ?_ | refine g_add rfl (by omega) (by omega) ?_)
      refine g_next (i + 1) ⟨hlt, fun j q hj hq => ?_⟩ (by omega) (by repeat (first | exact trivial | refine ⟨rfl, ?_⟩)) (by simp)
      by_cases hji : j = i
      · subst hji
        rw [ht] at hq
        simp only [Option.some.injEq] at hq
        subst hq
        simpa using h2
      · exact hall j q (by omega) hq
  · have hge : i = n := by have := h1; simp at this; omega
    repeat (first | refine g_op rfl ?_ | refine g_then ?_ | refine g_nil ?_ | refine g_region ?_ | refine g_seq ?_ | refine g_exit ?_ | refine g_thenExit ?_ | refine g_exitHere ?_ | refine g_ret ?_)
    refine g_retV rfl ?_
    rw [decide_eq_false]
    intro hm
    obtain ⟨j, hj⟩ := List.getElem?_of_mem hm
    exact hall j x (by have := (List.getElem?_eq_some_iff.1 hj).1; omega) hj rfl

theorem ints_sl {S : Nat → Prop} {w0 w : World} {H : List Ent} {k c n e : Nat} {a : Option Addr} {l : List Nat} (h : Wd S w0 H w) (hk : H[k]? = some (Ent.vec a n c e 1 (l.map intN))) (hn : n = l.length) (hb : n ≤ 100000) (hl : ∀ x ∈ l, x ≤ 100000) : SlAt w (.slice a n c) 1 (l.map (fun x : Nat => (x : Int))) IntV := by
  refine h.slAt hk (by simpa using hn) (by omega) fun i x hx => ?_
  rw [List.getElem?_map] at hx
  obtain ⟨y, hy, rfl⟩ := Option.map_eq_some_iff.1 hx
  have hb := hl y (List.mem_of_getElem? hy)
  refine ⟨[intN y], fun j v hj => ?_, rfl, by simp only [inI]; omega⟩
  match j, hj with
  | 0, hj => simpa [hy] using hj
theorem mem_ints {l : List Nat} {x : Nat} : (x : Int) ∈ l.map (fun x : Nat => (x : Int)) ↔ x ∈ l := by
  rw [List.mem_map]
  exact ⟨fun ⟨y, hy, e⟩ => by have : y = x := by omega
                              exact this ▸ hy, fun h => ⟨x, h, rfl⟩⟩

/-- what 'From' hands back -/
def FromR (bl : List LBlock) (wo : Int) (b : Nat) (l : List Nat) : Prop := l.Nodup ∧ (∀ x ∈ l, x < bl.length) ∧ ∀ x, x ∈ l ↔ ((b : Int) ≠ wo ∧ Rch bl wo b x)
theorem refFrom_c (nm pa re : Value) (bl : List LBlock) (bs : Value) (b : Nat) (wo : Int) (w0 : World) (hbs : SlAt w0 bs 6 bl BlockV) (hlen : bl.length ≤ 100) (hok : GoodB bl) (hb : b < bl.length) :
    Ret Tryd.prog 46 [.agg #[nm, pa, re, bs], .int .i64 b, .int .i64 wo] w0 fun u w' => ∃ x : Option Addr × Nat × List Nat, u = .slice x.1 x.2.2.length x.2.1 ∧ Wd NoS w0 [Ent.vec x.1 x.2.2.length x.2.1 3 1 (x.2.2.map intN)] w' ∧ FromR bl wo b x.2.2 := by
  obtain ⟨ba, n, bc, bb, bo', rfl, hn, hnc, hnb, hbc, hba, hel⟩ := hbs
  rw [← hn] at hb hlen
  refine ret_enter Tryd.func46 rfl Tryd.ntmps46 rfl (Wd.nil NoS w0) ?_
  repeat (first | refine g_op rfl ?_ | refine g_then ?_ | refine g_nil ?_ | refine g_region ?_ | refine g_seq ?_ | refine g_box rfl fun _ _ => ?_)
  rename_i p3 _
  refine g_cond (fun h0 => ?_) (fun h0 => ?_)
  · repeat (first | refine g_then ?_ | refine g_nil ?_ | refine g_region ?_ | refine g_seq ?_ | refine g_opS rfl ?_ | refine g_ret ?_ | refine g_thenRet ?_)
    refine g_nilVec 3 1 ?_
    refine g_ret1 rfl fun w hw => ⟨(none, 0, []), rfl, hw.sub (List.Sublist.cons_cons _ (List.Sublist.cons _ (List.Sublist.refl _))), by simp, by simp, fun x => ?_⟩
    have : (b : Int) = wo := by simpa using h0
    simp [this]
  have h0' : (b : Int) ≠ wo := by simpa using h0
  repeat (first | refine g_op rfl ?_ | refine g_then ?_ | refine g_nil ?_ | refine g_region ?_ | refine g_seq ?_ | refine g_block ?_ | refine g_skip ?_ | refine g_build1 rfl rfl fun _ _ => ?_)
  rename_i p7 _
  refine g_loop (fun (x : Nat × List Nat × Option Addr × Nat) => x.1 ≤ x.2.1.length ∧ x.2.1.Nodup ∧ (∀ y ∈ x.2.1, y < n) ∧ (∀ y ∈ x.2.1, Rch bl wo b y) ∧ b ∈ x.2.1 ∧ ∀ k y z, k < x.1 → x.2.1[k]? = some y → Edge bl y z → (z : Int) ≠ wo → z ∈ x.2.1)
    (fun x => [(8, .int .i64 x.1), (7, .slice x.2.2.1 x.2.1.length x.2.2.2), (3, .pointer (some ⟨p3, 0, none⟩)), (2, .int .i64 wo)])
    (fun x => [Ent.vec x.2.2.1 x.2.1.length x.2.2.2 3 1 (x.2.1.map intN), Ent.box p3 [nm, pa, re, .slice ba n bc] 35])
    (fun x => n - x.1) (0, [b], some ⟨p7, 0, none⟩, 1) ⟨Nat.zero_le _, by simp, by simpa using hb, by simpa using Rch.refl, by simp, by simp⟩ (g_done (by repeat (first | exact trivial | refine ⟨rfl, ?_⟩)) (List.Sublist.refl _)) fun x ⟨hi, hnd, hlt', hr, hbm, hcl⟩ => ?_
  obtain ⟨i, l, la, lc⟩ := x
  simp only at hi hnd hlt' hr hbm hcl ⊢
  have hll : l.length ≤ n := nodup_len n l hnd hlt'
  repeat (first | refine g_op rfl ?_ | refine g_then ?_ | refine g_nil ?_ | refine g_region ?_ | refine g_seq ?_)
  refine g_cond (fun h1 => ?_) (fun h1 => ?_)
  · have hil : i < l.length := by simpa using h1
    refine g_vec 0 rfl (by omega) fun rb ro hra => ?_
    subst hra
    obtain ⟨x0, hx0⟩ : ∃ x0, l[i]? = some x0 := ⟨_, List.getElem?_eq_getElem hil⟩
    have hx0n : x0 < n := hlt' x0 (List.mem_of_getElem? hx0)
    obtain ⟨B, hB⟩ := get_lt hn hx0n
    have had : AddrIs ba bb bo' := ⟨hba (ne_of_get hB)⟩
    have hli : LtIs x0 n := ⟨hx0n⟩
    have hli1 : LtIs i l.length := ⟨hil⟩
    obtain ⟨cs, hcs, pv, lv, tv, rfl, _, _, _, _, ht⟩ := hel x0 B hB
    obtain ⟨ta, tn, tc, tb, to', rfl, htn, htnc, htnb, htc, hta, htel⟩ := ht
    have hci : CellsIs w0 bb (bo' + x0 * 6) _ := ⟨hcs⟩
    have hBok := hok B (List.mem_of_getElem? hB)
    have hxat : XAt (l.map intN) (i * 1) (.int .i64 (x0 : Int)) := ⟨by simp [hx0, intN]⟩
    repeat (first | refine g_then ?_ | refine g_seq ?_ | refine g_block ?_ | refine g_skip ?_)
    refine g_draw mixed (by kernel_rfl) ?_
    repeat (first | refine q_op rfl ?_ | refine q_nil ?_)
    repeat (first | refine g_op rfl ?_ | refine g_then ?_ | refine g_nil ?_ | refine g_region ?_ | refine g_seq ?_ | refine g_block ?_)
    refine g_loop (fun (x : Nat × List Nat × Option Addr × Nat) => x.1 ≤ tn ∧ x.2.1.Nodup ∧ (∀ y ∈ x.2.1, y < n) ∧ (∀ y ∈ x.2.1, Rch bl wo b y) ∧ (∃ r, x.2.1 = l ++ r) ∧ ∀ k t, k < x.1 → B.to[k]? = some t → t ≠ wo → t.toNat ∈ x.2.1)
      (fun x => [(10, .int .i64 x.1), (9, .slice ta tn tc), (8, .int .i64 i), (7, .slice x.2.2.1 x.2.1.length x.2.2.2), (3, .pointer (some ⟨p3, 0, none⟩)), (2, .int .i64 wo)])
      (fun x => [Ent.vec x.2.2.1 x.2.1.length x.2.2.2 3 1 (x.2.1.map intN), Ent.box p3 [nm, pa, re, .slice ba n bc] 35])
      (fun x => tn - x.1) (0, l, some ⟨rb, ro, none⟩, lc) ⟨Nat.zero_le _, hnd, hlt', hr, ⟨[], by simp⟩, by simp⟩ (g_done (by repeat (first | exact trivial | refine ⟨rfl, ?_⟩)) (List.Sublist.refl _)) fun x ⟨hj, hnd', hlt'', hr', ⟨r, hlr⟩, hdone⟩ => ?_
    obtain ⟨j, l', la', lc'⟩ := x
    simp only at hj hnd' hlt'' hr' hlr hdone ⊢
    have hll' : l'.length ≤ n := nodup_len n l' hnd' hlt''
    repeat (first | refine g_op rfl ?_ | refine g_then ?_ | refine g_nil ?_ | refine g_region ?_ | refine g_seq ?_)
    refine g_cond (fun h2 => ?_) (fun h2 => ?_)
    · have hjlt : j < tn := by simpa using h2
      obtain ⟨t, htj⟩ := get_lt htn hjlt
      have htt := hBok.2 t (List.mem_of_getElem? htj)
      obtain ⟨k, hk⟩ : ∃ k : Nat, t = k := ⟨t.toNat, by omega⟩
      have hkn : k < n := by omega
      have had2 : AddrIs ta tb to' := ⟨hta (ne_of_get htj)⟩
      have hli2 : LtIs j tn := ⟨hjlt⟩
      obtain ⟨cs2, hcs2, rfl, _⟩ := htel j t htj
      have hci2 : CellsIs w0 tb (to' + j * 1) _ := ⟨hcs2⟩
      have hedge : Edge bl x0 k := by
        unfold Edge
        rw [toOf_get hB, ← hk]
        exact List.mem_of_getElem? htj
      have hx0r : Rch bl wo b x0 := hr x0 (List.mem_of_getElem? hx0)
      have skip : (t = wo ∨ k ∈ l') → ∀ q t', q < j + 1 → B.to[q]? = some t' → t' ≠ wo → t'.toNat ∈ l' := by
        intro hs q t' hq ht' hw
        by_cases hqj : q = j
        · subst hqj
          rw [htj] at ht'
          simp only [Option.some.injEq] at ht'
          subst ht'
          rcases hs with h | h
          · exact absurd h hw
          · rw [hk]; simpa using h
        · exact hdone q t' (by omega) ht' hw
      repeat (first | refine g_op rfl ?_ | refine g_then ?_ | refine g_region ?_ | refine g_seq ?_ | refine g_block ?_ | refine g_skip ?_)
      generalize hb1 : (!decide (t = wo)) = b1
      refine g_joinTo 52 (.bool (b1 && !decide (k ∈ l'))) ?_ ?_
      · cases b1
        · repeat (first | refine g_op rfl ?_ | refine g_then ?_ | refine g_nil ?_ | refine g_pass rfl ?_)
          exact g_done (by repeat (first | exact trivial | refine ⟨rfl, ?_⟩)) (List.Sublist.refl _)
        · repeat (first | refine g_op rfl ?_ | refine g_open ?_)
          refine g_callV rfl (fun w hw => has_c _ (l'.map (fun x : Nat => (x : Int))) t w (ints_sl hw (k := 0) rfl rfl (by omega) fun y hy => by have := hlt'' y hy; omega)) ?_
          rw [hk, show decide ((k : Int) ∈ l'.map (fun x : Nat => (x : Int))) = decide (k ∈ l') by rw [decide_eq_decide]; exact mem_ints]
          repeat (first | refine g_op rfl ?_ | refine g_then ?_ | refine g_nil ?_ | refine g_open ?_)
          exact g_done (by repeat (first | exact trivial | refine ⟨rfl, ?_⟩)) (List.Sublist.refl _)
      repeat (first | refine g_then ?_ | refine g_nil ?_)
      refine g_cond (fun h3 => ?_) (fun h3 => ?_)
      · have hkw : t ≠ wo ∧ k ∉ l' := by subst hb1; simpa using h3
        repeat (first | refine g_op rfl ?_ | refine g_region ?_ | refine g_build1 rfl rfl fun _ _ => ?_)
        refine g_append rfl rfl (by omega) (by omega) fun a' c' => ?_
        rw [show l'.map intN ++ [.int .i64 t] = (l' ++ [k]).map intN by simp [intN, hk]]
        rw [show l'.length + 1 = (l' ++ [k]).length by simp]
        repeat (first | refine g_op rfl ?_ | refine g_then ?_ | refine g_nil ?_ | refine g_region ?_ | refine g_opS rfl ?_ | refine g_inBlock ?_ | refine g_add rfl (by omega) (by omega) ?_)
        refine g_next (j + 1, l' ++ [k], a', c') ⟨hjlt, ?_, ?_, ?_, ⟨r ++ [k], by rw [hlr, List.append_assoc]⟩, ?_⟩ (by simp only; omega) (by repeat (first | exact trivial | refine ⟨rfl, ?_⟩)) (List.Sublist.cons _ (List.Sublist.refl _))
        · rw [List.nodup_append]
          exact ⟨hnd', by simp, fun a ha c hc e => by simp only [List.mem_singleton] at hc; exact hkw.2 (hc ▸ e ▸ ha)⟩
        · intro y hy
          rcases List.mem_append.1 hy with hy | hy
          · exact hlt'' y hy
          · simp only [List.mem_singleton] at hy; omega
        · intro y hy
          rcases List.mem_append.1 hy with hy | hy
          · exact hr' y hy
          · simp only [List.mem_singleton] at hy
            subst hy
            exact hx0r.step hedge (by rw [← hk]; exact hkw.1)
        · intro q t' hq ht' hw
          by_cases hqj : q = j
          · subst hqj
            rw [htj] at ht'
            simp only [Option.some.injEq] at ht'
            subst ht'
            rw [hk]; simp
          · exact List.mem_append_left _ (hdone q t' (by simp only at hq; omega) ht' hw)
      · have hkw : t = wo ∨ k ∈ l' := by
          subst hb1
          by_cases h : t = wo
          · exact .inl h
          · right; simpa [h] using h3
        repeat (first | refine g_op rfl ?_ | refine g_then ?_ | refine g_nil ?_ | refine g_region ?_ | refine g_opS rfl ?_ | refine g_inBlock ?_ | refine g_skip ?_ | refine g_add rfl (by omega) (by omega) ?_)
        exact g_next (j + 1, l', la', lc') ⟨hjlt, hnd', hlt'', hr', ⟨r, hlr⟩, skip hkw⟩ (by simp only; omega) (by repeat (first | exact trivial | refine ⟨rfl, ?_⟩)) (List.Sublist.refl _)
    · have hge : j = tn := by have := h2; simp at this; omega
      repeat (first | refine g_op rfl ?_ | refine g_then ?_ | refine g_nil ?_ | refine g_region ?_ | refine g_opS rfl ?_ | refine g_inBlock ?_ | refine g_add rfl (by omega) (by omega) ?_ | refine g_exit ?_ | refine g_thenExit ?_ | refine g_exitHere ?_)
      refine g_next (i + 1, l', la', lc') ⟨by rw [hlr, List.length_append]; omega, hnd', hlt'', hr', by rw [hlr]; exact List.mem_append_left _ hbm, ?_⟩ (by simp only; omega) (by repeat (first | exact trivial | refine ⟨rfl, ?_⟩)) (List.Sublist.refl _)
      intro k y z hk hy he hw
      simp only at hk hy ⊢
      rw [hlr, List.getElem?_append_left (by omega)] at hy
      by_cases hki : k = i
      · subst hki
        rw [hx0] at hy
        simp only [Option.some.injEq] at hy
        subst hy
        unfold Edge at he
        rw [toOf_get hB] at he
        obtain ⟨q, hq⟩ := List.getElem?_of_mem he
        have := hdone q _ (by have := (List.getElem?_eq_some_iff.1 hq).1; omega) hq hw
        simpa using this
      · rw [hlr]
        exact List.mem_append_left _ (hcl k y z (by omega) hy he hw)
  · have hge : i = l.length := by have := h1; simp at this; omega
    repeat (first | refine g_op rfl ?_ | refine g_then ?_ | refine g_nil ?_ | refine g_region ?_ | refine g_seq ?_ | refine g_exit ?_ | refine g_thenExit ?_ | refine g_exitHere ?_ | refine g_ret ?_)
    refine g_ret1 rfl fun w hw => ⟨(la, lc, l), rfl, hw.sub (List.Sublist.cons_cons _ (List.Sublist.cons _ (List.Sublist.refl _))), hnd, fun x hx => by rw [← hn]; exact hlt' x hx, fun x => ⟨fun hx => ⟨h0', hr x hx⟩, fun ⟨_, hx⟩ => ?_⟩⟩
    refine rch_closed (p := fun y => y ∈ l) hbm (fun y z hy he hw => ?_) hx
    obtain ⟨k, hk⟩ := List.getElem?_of_mem hy
    exact hcl k y z (by have := (List.getElem?_eq_some_iff.1 hk).1; omega) hk he hw

theorem part_c (nm pa re : Value) (bl : List LBlock) (bs : Value) (hbsl : ∃ a n c, bs = .slice a n c) (b : Nat) (w0 : World) (hbs : SlAt w0 bs 6 bl BlockV) (hlen : bl.length ≤ 100) (hok : GoodB bl) (hb : b < bl.length) :
    RetV Tryd.prog 17 [.agg #[nm, pa, re, bs], .int .i64 b] w0 (.int .i64 (partOf bl b)) := by
  classical
  have hbs0 := hbs
  obtain ⟨ba, n, bc, rfl⟩ := hbsl
  have hn : n = bl.length := by
    obtain ⟨_, _, _, _, _, e, h, _⟩ := hbs
    simp only [Value.slice.injEq] at e
    rw [e.2.1]; exact h
  refine ret_enter Tryd.func17 rfl Tryd.ntmps17 rfl (Wd.nil NoS w0) ?_
  repeat (first | refine g_op rfl ?_ | refine g_then ?_ | refine g_nil ?_ | refine g_region ?_ | refine g_seq ?_ | refine g_box rfl fun _ _ => ?_ | refine g_block ?_)
  rename_i p2 _
  refine g_loop (fun (c : Nat) => c ≤ b ∧ ∀ d, d < c → ¬ Mut bl b d) (fun c => [(5, .int .i64 c), (1, .int .i64 b), (2, .pointer (some ⟨p2, 0, none⟩))]) (fun _ => [Ent.box p2 [nm, pa, re, .slice ba n bc] 35]) (fun c => b - c) 0 ⟨Nat.zero_le _, by simp⟩ (g_done (by repeat (first | exact trivial | refine ⟨rfl, ?_⟩)) (List.Sublist.refl _)) fun c ⟨hc, hall⟩ => ?_
  have hcl : c < bl.length := by omega
  repeat (first | refine g_op rfl ?_ | refine g_then ?_ | refine g_nil ?_ | refine g_region ?_ | refine g_seq ?_)
  refine g_cond (fun h1 => ?_) (fun h1 => ?_)
  · repeat (first | refine g_op rfl ?_ | refine g_then ?_ | refine g_region ?_ | refine g_seq ?_ | refine g_block ?_ | refine g_skip ?_)
    refine g_callE (val := fun x : Option Addr × Nat × List Nat => .slice x.1 x.2.2.length x.2.1) (E := fun x => [Ent.vec x.1 x.2.2.length x.2.1 3 1 (x.2.2.map intN)]) (φ := fun x => FromR bl (-1) b x.2.2) rfl (fun w hw => refFrom_c _ _ _ bl _ b (-1) w (hbs0.keep keeps_block hw.chg) hlen hok hb) fun x hx => ?_
    obtain ⟨xa, xc, l⟩ := x
    simp only [List.cons_append, List.nil_append] at hx ⊢
    have hlb : l.length ≤ bl.length := nodup_len _ _ hx.1 hx.2.1
    repeat (refine g_op rfl ?_)
    refine g_callV rfl (fun w hw => has_c _ (l.map (fun x : Nat => (x : Int))) c w (ints_sl hw (k := 0) rfl rfl (by omega) fun y hy => by have := hx.2.1 y hy; omega)) ?_
    rw [show decide ((c : Int) ∈ l.map (fun x : Nat => (x : Int))) = decide (Rch bl (-1) b c) by rw [decide_eq_decide, mem_ints, hx.2.2 c]; simp]
    repeat (refine g_op rfl ?_)
    generalize hb1 : decide (Rch bl (-1) b c) = b1
    refine g_joinTo 24 (.bool (b1 && decide (Rch bl (-1) c b))) ?_ ?_
    · cases b1
      · repeat (first | refine g_op rfl ?_ | refine g_then ?_ | refine g_nil ?_ | refine g_pass rfl ?_)
        exact g_done (by repeat (first | exact trivial | refine ⟨rfl, ?_⟩)) (List.Sublist.refl _)
      · repeat (first | refine g_op rfl ?_ | refine g_open ?_)
        refine g_callE (val := fun x : Option Addr × Nat × List Nat => .slice x.1 x.2.2.length x.2.1) (E := fun x => [Ent.vec x.1 x.2.2.length x.2.1 3 1 (x.2.2.map intN)]) (φ := fun x => FromR bl (-1) c x.2.2) rfl (fun w hw => refFrom_c _ _ _ bl _ c (-1) w (hbs0.keep keeps_block hw.chg) hlen hok hcl) fun x hx2 => ?_
        obtain ⟨ya, yc, m⟩ := x
        simp only [List.cons_append, List.nil_append] at hx2 ⊢
        have hlb2 : m.length ≤ bl.length := nodup_len _ _ hx2.1 hx2.2.1
        repeat (first | refine g_op rfl ?_ | refine g_open ?_)
        refine g_callV rfl (fun w hw => has_c _ (m.map (fun x : Nat => (x : Int))) b w (ints_sl hw (k := 0) rfl rfl (by omega) fun y hy => by have := hx2.2.1 y hy; omega)) ?_
        rw [show decide ((b : Int) ∈ m.map (fun x : Nat => (x : Int))) = decide (Rch bl (-1) c b) by rw [decide_eq_decide, mem_ints, hx2.2.2 b]; simp]
        repeat (first | refine g_op rfl ?_ | refine g_then ?_ | refine g_nil ?_)
        exact g_done (by repeat (first | exact trivial | refine ⟨rfl, ?_⟩)) (List.Sublist.cons _ (List.Sublist.refl _))
    repeat (first | refine g_then ?_ | refine g_nil ?_)
    refine g_cond (fun h2 => ?_) (fun h2 => ?_)
    · have hm : Mut bl b c := by subst hb1; simpa [Mut] using h2
      repeat (first | refine g_op rfl ?_ | refine g_then ?_ | refine g_nil ?_ | refine g_region ?_ | refine g_seq ?_ | refine g_ret ?_ | refine g_thenRet ?_ | refine g_blockRet ?_)
      exact g_retV rfl (by rw [partOf_eq hcl hm hall])
    · have hm : ¬ Mut bl b c := by subst hb1; simpa [Mut] using h2
      have hcb : c ≠ b := fun e => hm (by rw [e]; exact ⟨Rch.refl, Rch.refl⟩)
      repeat (first | refine g_op rfl ?_ | refine g_then ?_ | refine g_nil ?_ | refine g_region ?_ | refine g_opS rfl ?_ | refine g_inBlock ?_ | refine g_skip ?_ | refine g_add rfl (by omega) (by omega) ?_)
      refine g_next (c + 1) ⟨by omega, fun d hd => ?_⟩ (by omega) (by repeat (first | exact trivial | refine ⟨rfl, ?_⟩)) (List.Sublist.cons _ (List.Sublist.refl _))
      by_cases hdc : d = c
      · subst hdc; exact hm
      · exact hall d (by omega)
  · exact absurd h1 (by simp; omega)
end Go.Proofs.YtebajiafdkokjaaDoor

/- graph.Parts and the law GraphParts. -/
namespace Go.Proofs.YtebajiafdkokjaaDoor
open Go Go.RowKit
attribute [local irreducible] wpListIn Code.wpIn Exit.then Exit.inBlock bodyPost wpQuiet wpAnyIn
set_option maxHeartbeats 2000000

theorem bodyErr_good {fs : List LFunc} {f : LFunc} (h : bodyErr fs f = 0) : GoodB f.blocks := by
  unfold bodyErr at h
  split at h
  · rename_i h1; exact absurd h h1
  · rename_i h1
    have hz := firstI_zero (by simpa using h1)
    intro b hb
    obtain ⟨j, hj⟩ := List.getElem?_of_mem hb
    have := hz j (List.getElem?_eq_some_iff.1 hj).1
    simp only [at0, hj] at this
    exact endE_ok this
theorem check_bodies {u : LUnit} (h : (checkL u).1 = 0) : ∀ X ∈ u.funcs, bodyErr u.funcs X = 0 := by
  unfold checkL at h
  split at h
  · cases h
  · split at h
    · rename_i h2; exact absurd h h2
    · split at h
      · rename_i h2; exact absurd h h2
      · split at h
        · rename_i h2; exact absurd h h2
        · rename_i h4
          have hz := firstI_zero (by simpa using h4)
          intro X hX
          obtain ⟨j, hj⟩ := List.getElem?_of_mem hX
          have := hz j (List.getElem?_eq_some_iff.1 hj).1
          simpa only [at0, hj] using this
theorem asked_ok {u : LUnit} {k : Int} (h : (askedL u k).1 = 0) : (checkL u).1 = 0 ∧ askedL u k = (0, 0) ∧ ∃ (i : Nat) (X : LFunc), k = i ∧ u.funcs[i]? = some X ∧ GoodB X.blocks := by
  unfold askedL at h ⊢
  by_cases h1 : (checkL u).1 ≠ 0
  · rw [if_pos h1] at h; exact absurd h h1
  · rw [if_neg h1] at h ⊢
    by_cases h2 : k < 0 ∨ (u.funcs.length : Int) ≤ k
    · rw [if_pos h2] at h; cases h
    · rw [if_neg h2]
      have h0 : (checkL u).1 = 0 := by simpa using h1
      have hlt : k.toNat < u.funcs.length := by omega
      exact ⟨h0, rfl, k.toNat, u.funcs[k.toNat], by omega, List.getElem?_eq_getElem hlt, bodyErr_good (check_bodies h0 _ (List.getElem_mem hlt))⟩

def valP (n p : Nat) : Value := .slice (some ⟨p, 0, none⟩) n n
noncomputable def entP (bl : List LBlock) (n : Nat) (q : Nat × Nat) : Ent := Ent.vec (some ⟨q.1, 0, none⟩) n n 4 1 ((seenOf bl q.2).map .bool)
theorem parts_bad (u : LUnit) (hl : light u) (k : Int) (hk : inI k) (hbad : (askedL u k).1 ≠ 0) (g fs : Value) (w0 : World) (hg : SlAt w0 g 3 u.globals GlobalV) (hf : SlAt w0 fs 4 u.funcs FuncV) (hways : CellsAt w0 0 0 waysC) :
    RetV Tryd.prog 15 [.agg #[g, fs], .int .i64 k] w0 (.tuple #[.slice none 0 0, .agg #[.int .i64 (askedL u k).1, .int .i64 (askedL u k).2]]) := by
  have hg0 := hg
  have hf0 := hf
  obtain ⟨ga, gn, gc, gb, go, rfl, _⟩ := hg
  obtain ⟨fa, fn, fc, fb, fo, rfl, _⟩ := hf
  refine ret_enter Tryd.func15 rfl Tryd.ntmps15 rfl (Wd.nil NoS w0) ?_
  repeat (first | refine g_op rfl ?_ | refine g_then ?_ | refine g_nil ?_ | refine g_region ?_ | refine g_seq ?_ | refine g_box rfl fun _ _ => ?_ | refine g_alloc rfl fun _ _ => ?_)
  rename_i p2 _ p5 _
  refine g_callV rfl (fun w hw => func_bad u hl k hk hbad _ _ w (hg0.keep keeps_global hw.chg) (hf0.keep keeps_func hw.chg) (hways.keep hw.chg)) ?_
  unfold zeroFn
  repeat (first | refine g_op rfl ?_ | refine g_then ?_ | refine g_nil ?_ | refine g_region ?_ | refine g_seq ?_ | refine g_alloc rfl fun _ _ => ?_ | refine g_storeAgg ?_)
  rename_i p6 _ p7 _
  refine g_cond (fun h1 => ?_) (fun h1 => ?_)
  · repeat (refine g_seq ?_)
    refine g_drawW [(4, .slice none 0 0), (5, .pointer (some ⟨p5, 0, none⟩))] [Ent.box p5 [.int .i64 (askedL u k).1, .int .i64 (askedL u k).2] 29] mixed ?_ ?_
    · repeat' (first | refine g_any0 (by decide +kernel) ?_ | refine g_any (by decide +kernel) ?_ | refine any_nil | refine any_skip (by decide +kernel) ?_ | refine any_cons ?_ ?_ | refine g_op rfl ?_ | refine g_then ?_ | refine g_nil ?_ | refine g_opS rfl ?_ | refine g_storeAgg ?_)
      all_goals exact g_done (by repeat (first | exact trivial | refine ⟨rfl, ?_⟩)) (by simp)
    · repeat (first | refine g_then ?_ | refine g_ret ?_ | refine g_thenRet ?_)
      exact g_retTC rfl fun _ hw => ⟨rfl, hw.chg⟩
  · exact absurd h1 (by simp [hbad])
theorem parts_ok (u : LUnit) (hl : light u) (k : Nat) (hgood : (askedL u k).1 = 0) (X : LFunc) (hX : u.funcs[k]? = some X) (hok : GoodB X.blocks) (g fs : Value) (w0 : World) (hg : SlAt w0 g 3 u.globals GlobalV) (hf : SlAt w0 fs 4 u.funcs FuncV) (hways : CellsAt w0 0 0 waysC) :
    Ret Tryd.prog 15 [.agg #[g, fs], .int .i64 k] w0 fun v w' => ∃ x : Option Addr × Nat, v = .tuple #[.slice x.1 X.blocks.length x.2, .agg #[.int .i64 0, .int .i64 0]] ∧ Wd NoS w0 [Ent.vec x.1 X.blocks.length x.2 3 1 ((List.range X.blocks.length).map fun b => intN (partOf X.blocks b))] w' ∧ True := by
  classical
  have hg0 := hg
  have hf0 := hf
  obtain ⟨ga, gn, gc, gb, go, rfl, _⟩ := hg
  obtain ⟨fa, fn, fc, fb, fo, rfl, _⟩ := hf
  have hlx := hl.2 X (List.mem_of_getElem? hX)
  have h24 := hlx.1
  obtain ⟨bv, hbv, hfc⟩ := func_ok u hl k hgood _ _ X hX w0 hg0 hf0 hways
  have hbv0 := hbv
  obtain ⟨ba, n, bc, bb, bo', rfl, hn, hnc, hnb, hbc, hba, hel⟩ := hbv
  refine ret_enter Tryd.func15 rfl Tryd.ntmps15 rfl (Wd.nil NoS w0) ?_
  repeat (first | refine g_op rfl ?_ | refine g_then ?_ | refine g_nil ?_ | refine g_region ?_ | refine g_seq ?_ | refine g_box rfl fun _ _ => ?_ | refine g_alloc rfl fun _ _ => ?_)
  rename_i p2 _ p5 _
  refine g_callV rfl (fun w hw => hfc w hw.chg) ?_
  repeat (first | refine g_op rfl ?_ | refine g_then ?_ | refine g_nil ?_ | refine g_region ?_ | refine g_seq ?_ | refine g_alloc rfl fun _ _ => ?_ | refine g_storeAgg ?_ | refine g_block ?_ | refine g_skip ?_ | refine g_condF ?_)
  rename_i p6 _ p7 _
  refine g_nilVec 38 1 ?_
  refine g_loop (fun (x : Option Addr × Nat × List Nat) => x.2.2.length ≤ n)
    (fun x => [(26, .int .i64 x.2.2.length), (24, .slice ba n bc), (25, .int .i64 n), (8, .slice x.1 x.2.2.length x.2.1), (5, .pointer (some ⟨p5, 0, none⟩)), (6, .pointer (some ⟨p6, 0, none⟩)), (7, .pointer (some ⟨p7, 0, none⟩))])
    (fun x => Ent.vec x.1 x.2.2.length x.2.1 38 1 (x.2.2.map (valP n)) :: Ent.box p7 [.int .i64 0, .int .i64 0] 29 :: Ent.box p6 [.string X.name, .int .i64 X.params, .int .i64 X.regs, .slice ba n bc] 35 :: Ent.box p5 [.int .i64 0, .int .i64 0] 29 :: x.2.2.zipIdx.map (entP X.blocks n))
    (fun x => n - x.2.2.length) (none, 0, []) (Nat.zero_le _) (g_done (by repeat (first | exact trivial | refine ⟨rfl, ?_⟩)) (by simp)) fun x hi => ?_
  obtain ⟨oa, oc, rs⟩ := x
  simp only at hi ⊢
  repeat (first | refine g_op rfl ?_ | refine g_then ?_ | refine g_nil ?_ | refine g_region ?_ | refine g_seq ?_)
  refine g_cond (fun h1 => ?_) (fun h1 => ?_)
  · have hlt : rs.length < n := by simpa using h1
    repeat (first | refine g_op rfl ?_ | refine g_then ?_ | refine g_nil ?_ | refine g_region ?_ | refine g_seq ?_ | refine g_block ?_ | refine g_skip ?_)
    refine g_callE (val := fun p : Nat => .slice (some ⟨p, 0, none⟩) X.blocks.length X.blocks.length) (E := fun p => [Ent.vec (some ⟨p, 0, none⟩) X.blocks.length X.blocks.length 4 1 ((seenOf X.blocks rs.length).map .bool)]) (φ := fun _ => True) rfl (fun w hw => graphFrom_c _ _ _ X.blocks _ rs.length w (hbv0.keep keeps_block hw.chg) (by omega) hok (by omega)) fun p _ => ?_
    rw [← hn]
    simp only [List.cons_append, List.nil_append]
    repeat (refine g_build1 rfl rfl fun _ _ => ?_)
    refine g_append rfl rfl (by omega) (by omega) fun a' c' => ?_
    refine g_fix (L' := [(34, .slice a' (rs.length + 1) c'), (26, .int .i64 rs.length), (24, .slice ba n bc), (25, .int .i64 n), (5, .pointer (some ⟨p5, 0, none⟩)), (6, .pointer (some ⟨p6, 0, none⟩)), (7, .pointer (some ⟨p7, 0, none⟩))]) (by repeat (first | exact trivial | refine ⟨rfl, ?_⟩)) (List.Sublist.cons _ (List.Sublist.refl _)) ?_
    refine g_permH (List.perm_append_singleton _ _).symm ?_
    refine g_eqH (H1 := Ent.vec a' (rs ++ [p]).length c' 38 1 ((rs ++ [p]).map (valP n)) :: Ent.box p7 [.int .i64 0, .int .i64 0] 29 :: Ent.box p6 [.string X.name, .int .i64 X.params, .int .i64 X.regs, .slice ba n bc] 35 :: Ent.box p5 [.int .i64 0, .int .i64 0] 29 :: (rs ++ [p]).zipIdx.map (entP X.blocks n)) (by simp [valP, entP, List.zipIdx_append]) ?_
    repeat (first | refine g_op rfl ?_ | refine g_then ?_ | refine g_nil ?_ | refine g_region ?_ | refine g_opS rfl ?_ | refine g_inBlock ?_ | refine g_add rfl (by omega) (by omega) ?_)
    refine g_next (a', c', rs ++ [p]) (by simp only [List.length_append, List.length_singleton]; omega) (by simp only [List.length_append, List.length_singleton]; omega) ?_ (List.Sublist.refl _)
    simp only [List.length_append, List.length_singleton, Int.natCast_add]
    exact (by repeat (first | exact trivial | refine ⟨rfl, ?_⟩))
  have hge : rs.length = n := by have := h1; simp at this; omega
  repeat (first | refine g_op rfl ?_ | refine g_then ?_ | refine g_nil ?_ | refine g_region ?_ | refine g_seq ?_ | refine g_block ?_ | refine g_exit ?_ | refine g_thenExit ?_ | refine g_exitHere ?_)
  refine g_nilVec 3 1 ?_
  refine g_loop (fun (x : Nat × Option Addr × Nat × Option Addr) => x.1 ≤ n)
    (fun x => [(39, .int .i64 x.1), (37, .slice ba n bc), (38, .int .i64 n), (8, .slice x.2.2.2 rs.length oc), (10, .slice x.2.1 x.1 x.2.2.1), (5, .pointer (some ⟨p5, 0, none⟩)), (7, .pointer (some ⟨p7, 0, none⟩))])
    (fun x => Ent.vec x.2.1 x.1 x.2.2.1 3 1 ((List.range x.1).map fun b => intN (partOf X.blocks b)) :: Ent.vec x.2.2.2 rs.length oc 38 1 (rs.map (valP n)) :: Ent.box p7 [.int .i64 0, .int .i64 0] 29 :: Ent.box p5 [.int .i64 0, .int .i64 0] 29 :: rs.zipIdx.map (entP X.blocks n))
    (fun x => n - x.1) (0, none, 0, oa) (Nat.zero_le _) (g_done (by repeat (first | exact trivial | refine ⟨rfl, ?_⟩)) (List.Sublist.cons_cons _ (List.Sublist.cons_cons _ (List.Sublist.cons_cons _ (List.Sublist.cons _ (List.Sublist.refl _)))))) fun x hi => ?_
  obtain ⟨b, ra, rc, oa2⟩ := x
  simp only at hi ⊢
  repeat (first | refine g_op rfl ?_ | refine g_then ?_ | refine g_nil ?_ | refine g_region ?_ | refine g_seq ?_)
  refine g_cond (fun h2 => ?_) (fun h2 => ?_)
  · have hb : b < n := by simpa using h2
    refine g_vec 1 rfl (by omega) fun bo oo hoa => ?_
    subst hoa
    have look : ∀ d, d < n → ∃ pd, rs[d]? = some pd ∧ XAt (rs.map (valP n)) (d * 1) (.slice (some ⟨pd, 0, none⟩) n n) ∧ ∀ e, e < n → OwnCell (rs.zipIdx.map (entP X.blocks n)) pd (0 + e * 1) (.bool (decide (Rch X.blocks (-1) d e))) := by
      intro d hd
      have hdl : d < rs.length := by omega
      refine ⟨rs[d], List.getElem?_eq_getElem hdl, ⟨by simp [valP, hdl]⟩, fun e he => ⟨fun S w0 w hw => ?_⟩⟩
      refine hw.vecCell (k := d) (n := n) (c := n) (e := 4) (s := 1) (xs := (seenOf X.blocks d).map .bool) ?_ ?_
      · rw [List.getElem?_map, List.getElem?_zipIdx, List.getElem?_eq_getElem hdl]
        simp [entP]
      · rw [Nat.mul_one, List.getElem?_map, seenOf_get (by omega)]; rfl
    obtain ⟨pb, hpb, hxb, hob⟩ := look b hb
    have hlb : LtIs b rs.length := ⟨by omega⟩
    repeat (first | refine g_op rfl ?_ | refine g_then ?_ | refine g_nil ?_ | refine g_region ?_ | refine g_seq ?_ | refine g_block ?_ | refine g_skip ?_)
    refine g_loop (fun (c : Nat) => c ≤ b ∧ ∀ d, d < c → ¬ Mut X.blocks b d) (fun c => [(12, .int .i64 c), (11, .int .i64 b), (39, .int .i64 b), (37, .slice ba n bc), (38, .int .i64 n), (8, .slice (some ⟨bo, oo, none⟩) rs.length oc), (10, .slice ra b rc), (5, .pointer (some ⟨p5, 0, none⟩)), (7, .pointer (some ⟨p7, 0, none⟩))])
      (fun _ => Ent.vec ra b rc 3 1 ((List.range b).map fun b => intN (partOf X.blocks b)) :: Ent.vec (some ⟨bo, oo, none⟩) rs.length oc 38 1 (rs.map (valP n)) :: Ent.box p7 [.int .i64 0, .int .i64 0] 29 :: Ent.box p5 [.int .i64 0, .int .i64 0] 29 :: rs.zipIdx.map (entP X.blocks n))
      (fun c => b - c) 0 ⟨Nat.zero_le _, by simp⟩ (g_done (by repeat (first | exact trivial | refine ⟨rfl, ?_⟩)) (List.Sublist.refl _)) fun c ⟨hc, hall⟩ => ?_
    have hcn : c < n := by omega
    obtain ⟨pc, hpc, hxc, hocc⟩ := look c hcn
    have hlc : LtIs c rs.length := ⟨by omega⟩
    have hlc2 : LtIs c n := ⟨hcn⟩
    have hlb2 : LtIs b n := ⟨hb⟩
    have ho1 := hob c hcn
    have ho2 := hocc b hb
    have step : ¬ Mut X.blocks b c → (c + 1 ≤ b ∧ ∀ d, d < c + 1 → ¬ Mut X.blocks b d) := fun hm => by
      have hcb : c ≠ b := fun e => hm (by rw [e]; exact ⟨Rch.refl, Rch.refl⟩)
      refine ⟨by omega, fun d hd => ?_⟩
      by_cases hdc : d = c
      · subst hdc; exact hm
      · exact hall d (by omega)
    generalize hs1 : decide (Rch X.blocks (-1) b c) = s1 at ho1
    generalize hs2 : decide (Rch X.blocks (-1) c b) = s2 at ho2
    cases s1
    · repeat (first | refine g_op rfl ?_ | refine g_then ?_ | refine g_nil ?_ | refine g_region ?_ | refine g_seq ?_ | refine g_opS rfl ?_ | refine g_pass rfl ?_ | refine g_inBlock ?_ | refine g_block ?_ | refine g_skip ?_ | refine g_condT ?_ | refine g_add rfl (by omega) (by omega) ?_)
      have hst := step (fun hm => by simp [hm.1] at hs1)
      exact g_next (c + 1) hst (by have := hst.1; omega) (by repeat (first | exact trivial | refine ⟨rfl, ?_⟩)) (List.Sublist.refl _)
    · cases s2
      · repeat (first | refine g_op rfl ?_ | refine g_then ?_ | refine g_nil ?_ | refine g_region ?_ | refine g_seq ?_ | refine g_opS rfl ?_ | refine g_open ?_ | refine g_inBlock ?_ | refine g_block ?_ | refine g_skip ?_ | refine g_condT ?_ | refine g_add rfl (by omega) (by omega) ?_)
        have hst := step (fun hm => by simp [hm.2] at hs2)
        exact g_next (c + 1) hst (by have := hst.1; omega) (by repeat (first | exact trivial | refine ⟨rfl, ?_⟩)) (List.Sublist.refl _)
      · have hm : Mut X.blocks b c := ⟨by simpa using hs1, by simpa using hs2⟩
        have hpart : partOf X.blocks b = c := partOf_eq (by omega) hm hall
        repeat (first | refine g_op rfl ?_ | refine g_then ?_ | refine g_nil ?_ | refine g_region ?_ | refine g_seq ?_ | refine g_open ?_ | refine g_condF ?_ | refine g_exit ?_ | refine g_thenExit ?_ | refine g_exitHere ?_ | refine g_build1 rfl rfl fun _ _ => ?_)
        refine g_append rfl rfl (by omega) (by omega) fun a' c' => ?_
        rw [show (List.range b).map (fun b => intN (partOf X.blocks b)) ++ [.int .i64 (c : Int)] = (List.range (b + 1)).map (fun b => intN (partOf X.blocks b)) by simp [List.range_succ, intN, hpart]]
        repeat (first | refine g_then ?_ | refine g_nil ?_ | refine g_region ?_ | refine g_opS rfl ?_ | refine g_inBlock ?_ | refine g_add rfl (by omega) (by omega) ?_)
        exact g_next (b + 1, a', c', some ⟨bo, oo, none⟩) hb (by simp only; omega) (by repeat (first | exact trivial | refine ⟨rfl, ?_⟩)) (List.Sublist.cons _ (List.Sublist.refl _))
  · have hgb : b = n := by have := h2; simp at this; omega
    repeat (first | refine g_then ?_ | refine g_seq ?_ | refine g_exit ?_ | refine g_thenExit ?_ | refine g_exitHere ?_)
    refine g_drawW [(4, .slice ra b rc), (5, .pointer (some ⟨p5, 0, none⟩))] [Ent.vec ra b rc 3 1 ((List.range b).map fun b => intN (partOf X.blocks b)), Ent.box p5 [.int .i64 0, .int .i64 0] 29] mixed ?_ ?_
    · repeat' (first | refine g_any0 (by decide +kernel) ?_ | refine g_any (by decide +kernel) ?_ | refine any_nil | refine any_skip (by decide +kernel) ?_ | refine any_cons ?_ ?_ | refine g_op rfl ?_ | refine g_then ?_ | refine g_nil ?_ | refine g_storeAgg ?_)
      all_goals exact g_done (by repeat (first | exact trivial | refine ⟨rfl, ?_⟩)) (List.Sublist.cons_cons _ (List.Sublist.cons _ (List.Sublist.cons _ (List.Sublist.cons_cons _ (List.nil_sublist _)))))
    · repeat (first | refine g_then ?_ | refine g_ret ?_)
      refine g_retTC rfl fun w hw => ⟨(ra, rc), ?_, ?_, trivial⟩
      · rw [← hn, ← hgb]
      · rw [← hn, ← hgb]
        exact hw.sub (List.Sublist.cons_cons _ (List.nil_sublist _))

theorem partsLaw_c (u : LUnit) (k : Int) (hk : inI k) (g fs : Value) (w0 : World) (hg : SlAt w0 g 3 u.globals GlobalV) (hf : SlAt w0 fs 4 u.funcs FuncV) (hways : CellsAt w0 0 0 waysC) :
    RetV Tryd.prog 3 [.agg #[g, fs], .int .i64 k] w0 (.bool true) := by
  have hg0 := hg
  have hf0 := hf
  obtain ⟨ga, gn, gc, gb, go, rfl, _⟩ := hg
  obtain ⟨fa, fn, fc, fb, fo, rfl, hfn, hfnc, hfnb, hfc, hfa, hfel⟩ := hf
  refine ret_enter Tryd.func3 rfl Tryd.ntmps3 rfl (Wd.nil NoS w0) ?_
  repeat (first | refine g_op rfl ?_ | refine g_then ?_ | refine g_nil ?_ | refine g_region ?_ | refine g_seq ?_ | refine g_box rfl fun _ _ => ?_)
  rename_i p2 _
  refine g_callE (val := fun b : Bool => .bool b) (E := fun _ => []) (φ := fun b => b = false → light u) rfl (fun w hw => heavy_c u _ _ w (hf0.keep keeps_func hw.chg) ⟨_, _, _, rfl⟩) fun b hb => ?_
  simp only [List.nil_append]
  cases b
  case true =>
    repeat (first | refine g_then ?_ | refine g_nil ?_ | refine g_region ?_ | refine g_seq ?_ | refine g_opS rfl ?_ | refine g_condT ?_ | refine g_ret ?_ | refine g_thenRet ?_)
    exact g_retV rfl rfl
  have hl := hb rfl
  repeat (first | refine g_op rfl ?_ | refine g_then ?_ | refine g_nil ?_ | refine g_region ?_ | refine g_seq ?_ | refine g_skip ?_ | refine g_condF ?_)
  by_cases hbad : (askedL u k).1 ≠ 0
  · refine g_callV rfl (fun w hw => parts_bad u hl k hk hbad _ _ w (hg0.keep keeps_global hw.chg) (hf0.keep keeps_func hw.chg) (hways.keep hw.chg)) ?_
    repeat (first | refine g_op rfl ?_ | refine g_then ?_ | refine g_nil ?_ | refine g_region ?_ | refine g_seq ?_ | refine g_alloc rfl fun _ _ => ?_ | refine g_storeAgg ?_)
    refine g_callV rfl (fun w hw => asked_c u hl k _ _ w (hg0.keep keeps_global hw.chg) (hf0.keep keeps_func hw.chg) (hways.keep hw.chg)) ?_
    repeat (first | refine g_op rfl ?_ | refine g_then ?_ | refine g_nil ?_ | refine g_region ?_ | refine g_seq ?_ | refine g_alloc rfl fun _ _ => ?_ | refine g_storeAgg ?_)
    refine g_cond (fun h1 => ?_) (fun h1 => ?_)
    · repeat (first | refine g_op rfl ?_ | refine g_region ?_ | refine g_seq ?_)
      rw [show (decide ((askedL u k).1 = (askedL u k).1) && decide ((askedL u k).2 = (askedL u k).2)) = true by simp]
      repeat (first | refine g_op rfl ?_ | refine g_then ?_ | refine g_nil ?_ | refine g_opS rfl ?_ | refine g_open ?_ | refine g_ret ?_ | refine g_thenRet ?_)
      exact g_retV rfl rfl
    · exact absurd h1 (by simp [hbad])
  have hgood : (askedL u k).1 = 0 := by simpa using hbad
  obtain ⟨hch, has, i, X, rfl, hX, hok⟩ := asked_ok hgood
  have hil : i < fn := by rw [hfn]; exact (List.getElem?_eq_some_iff.1 hX).1
  have had : AddrIs fa fb fo := ⟨hfa (ne_of_get hX)⟩
  have hli : LtIs i fn := ⟨hil⟩
  obtain ⟨cs, hcs, bv, rfl, hpi, hri, hbv⟩ := hfel i X hX
  have hci : CellsIs w0 fb (fo + i * 4) _ := ⟨hcs⟩
  have hbv0 := hbv
  obtain ⟨ba, bn, bc, _, _, rfl, hbn, _⟩ := hbv
  have h24 := (hl.2 X (List.mem_of_getElem? hX)).1
  refine g_callE (val := fun x : Option Addr × Nat => .tuple #[.slice x.1 X.blocks.length x.2, .agg #[.int .i64 0, .int .i64 0]]) (E := fun x => [Ent.vec x.1 X.blocks.length x.2 3 1 ((List.range X.blocks.length).map fun b => intN (partOf X.blocks b))]) (φ := fun _ => True) rfl (fun w hw => parts_ok u hl i hgood X hX hok _ _ w (hg0.keep keeps_global hw.chg) (hf0.keep keeps_func hw.chg) (hways.keep hw.chg)) fun x _ => ?_
  obtain ⟨ra, rc⟩ := x
  simp only [List.cons_append, List.nil_append]
  rw [← hbn]
  repeat (first | refine g_op rfl ?_ | refine g_then ?_ | refine g_nil ?_ | refine g_region ?_ | refine g_seq ?_ | refine g_alloc rfl fun _ _ => ?_ | refine g_storeAgg ?_)
  rename_i p6 _
  refine g_callV rfl (fun w hw => asked_c u hl i _ _ w (hg0.keep keeps_global hw.chg) (hf0.keep keeps_func hw.chg) (hways.keep hw.chg)) ?_
  rw [has]
  repeat (first | refine g_op rfl ?_ | refine g_then ?_ | refine g_nil ?_ | refine g_region ?_ | refine g_seq ?_ | refine g_alloc rfl fun _ _ => ?_ | refine g_storeAgg ?_ | refine g_skip ?_ | refine g_condF ?_)
  rename_i p7 _
  refine g_cond (fun h1 => ?_) (fun h1 => ?_)
  · exact absurd h1 (by simp)
  repeat (first | refine g_op rfl ?_ | refine g_then ?_ | refine g_nil ?_ | refine g_region ?_ | refine g_seq ?_ | refine g_block ?_ | refine g_skip ?_)
  refine g_loop (fun (x : Nat × Option Addr) => x.1 ≤ bn) (fun x => [(8, .int .i64 x.1), (5, .slice x.2 bn rc), (1, .int .i64 i), (2, .pointer (some ⟨p2, 0, none⟩)), (6, .pointer (some ⟨p6, 0, none⟩)), (7, .pointer (some ⟨p7, 0, none⟩)), (4, .bool false)])
    (fun x => [Ent.box p7 [.int .i64 0, .int .i64 0] 29, Ent.box p6 [.int .i64 0, .int .i64 0] 29, Ent.vec x.2 bn rc 3 1 ((List.range bn).map fun b => intN (partOf X.blocks b)), Ent.box p2 [.slice ga gn gc, .slice fa fn fc] 25]) (fun x => bn - x.1) (0, ra) (Nat.zero_le _) (g_done (by repeat (first | exact trivial | refine ⟨rfl, ?_⟩)) (List.Sublist.refl _)) fun x hj => ?_
  obtain ⟨j, ra⟩ := x
  simp only at hj ⊢
  repeat (first | refine g_op rfl ?_ | refine g_then ?_ | refine g_nil ?_ | refine g_region ?_ | refine g_seq ?_)
  refine g_cond (fun h2 => ?_) (fun h2 => ?_)
  · have hjl : j < bn := by simpa using h2
    refine g_vec 2 rfl (by omega) fun rb ro hra => ?_
    subst hra
    have hlj : LtIs j bn := ⟨hjl⟩
    have hxa : XAt ((List.range bn).map fun b => intN (partOf X.blocks b)) (j * 1) (.int .i64 (partOf X.blocks j : Int)) := ⟨by simp [hjl, intN]⟩
    repeat (first | refine g_then ?_ | refine g_seq ?_ | refine g_block ?_ | refine g_skip ?_)
    refine g_draw mixed (by kernel_rfl) ?_
    repeat (refine q_op rfl ?_)
    refine q_call rfl (fun w hw => part_c _ _ _ X.blocks _ ⟨_, _, _, rfl⟩ j w (hbv0.keep keeps_block hw.chg) (by omega) hok (by omega)) ?_
    repeat (first | refine q_op rfl ?_ | refine q_nil ?_)
    repeat (refine g_then ?_)
    refine g_cond (fun h3 => ?_) (fun h3 => ?_)
    · exact absurd h3 (by simp)
    · repeat (first | refine g_op rfl ?_ | refine g_then ?_ | refine g_nil ?_ | refine g_region ?_ | refine g_opS rfl ?_ | refine g_inBlock ?_ | refine g_skip ?_ | refine g_add rfl (by omega) (by omega) ?_)
      exact g_next (j + 1, some ⟨rb, ro, none⟩) hjl (by simp only; omega) (by repeat (first | exact trivial | refine ⟨rfl, ?_⟩)) (List.Sublist.refl _)
  · repeat (first | refine g_op rfl ?_ | refine g_then ?_ | refine g_region ?_ | refine g_seq ?_ | refine g_exit ?_ | refine g_thenExit ?_ | refine g_exitHere ?_)
    rw [show (decide ((0 : Int) = 0) && decide ((0 : Int) = 0)) = true from rfl]
    repeat (first | refine g_op rfl ?_ | refine g_then ?_ | refine g_nil ?_ | refine g_opS rfl ?_ | refine g_ret ?_)
    exact g_retV rfl rfl
end Go.Proofs.YtebajiafdkokjaaDoor

/- slices.Backward over numbers: the iterator's contract. -/
namespace Go.Proofs.YtebajiafdkokjaaDoor
open Go Go.RowKit Go.Shelf
attribute [local go_sem] Oper.semAt_some

/-- what keeps these blocks -/
def KeepB (K : Nat → Prop) (W W' : World) : Prop := ∀ b, K b → W'.heap[b]? = W.heap[b]?
theorem KeepB.cell {K : Nat → Prop} {W W' : World} (h : KeepB K W W') {p : Addr} (hp : K p.block) : W'.cell? p = W.cell? p := World.cell?_of_block (h _ hp)
/-- the pairs that have come after k rounds over l, from its end on -/
def downTo (l : List Int) (k : Nat) : List (Int × Int) := (List.range k).map fun (j : Nat) => (((l.length - 1 - j : Nat) : Int), l[l.length - 1 - j]?.getD 0)
theorem downTo_succ (l : List Int) (k : Nat) : downTo l (k + 1) = downTo l k ++ [(((l.length - 1 - k : Nat) : Int), l[l.length - 1 - k]?.getD 0)] := by simp [downTo, List.range_succ]
theorem downTo_length (l : List Int) (k : Nat) : (downTo l k).length = k := by simp [downTo]

theorem wrap64_in' (n : Int) (h1 : -9223372036854775808 ≤ n) (h2 : n ≤ 9223372036854775807) : wrap64 n = n := by unfold wrap64; omega
set_option maxRecDepth 100000 in
set_option maxHeartbeats 2000000 in
theorem backInt1_in (n : Nat) (hn : 1 ≤ n) {α : Type} (enc : α → Int × Int) (l Bs b off cap : Nat) (K : Nat → Prop) (zs : List Int) (xs : List α) (hxs : xs.map enc = downTo zs zs.length) (hlen : zs.length ≤ 100000) (hb : zs ≠ [] → K b) (hBsK : K Bs) (J Jx : List α → World → Prop) (a : Option Addr) (ha : zs ≠ [] → a = some ⟨b, off, none⟩)
    (hY : ∀ pre x W, J pre W → pre.length < zs.length → YieldAt Fence.wide (n - 1) Tryd.prog l #[.int .i64 (enc x).1, .int .i64 (enc x).2] W fun e W' =>
      (e = .returned (.bool true) ∧ J (pre ++ [x]) W' ∧ KeepB K W W') ∨ (e = .returned (.bool false) ∧ Jx (pre ++ [x]) W'))
    (W : World) (hBs : W.cell? ⟨Bs, 0, none⟩ = some (.slice a zs.length cap)) (hc : ∀ j, j < zs.length → W.cell? ⟨b, off + j, none⟩ = some (.int .i64 (zs[j]?.getD 0))) (h0 : J [] W) :
    CallsIn Fence.wide n Tryd.prog 117 #[.func (.yield l) #[] #[], .pointer (some ⟨Bs, 0, none⟩)] W fun e W' => (∃ v, e = .returned v) ∧
      ((∃ ys, ys = xs ∧ J ys W') ∨ (∃ pre, pre <+: xs ∧ Jx pre W')) := by
  refine callsIn_of_wp Tryd.func117 rfl trivial ?_ rfl
  simp only [Tryd.ntmps117, List.size_toArray, List.length_cons, List.length_nil, Nat.reduceAdd, Nat.reduceSub, Array.replicate_succ, Array.replicate_zero, List.push_toArray, List.append_toArray, List.nil_append, List.cons_append]
  have hxl : xs.length = zs.length := by have := congrArg List.length hxs; rwa [List.length_map, downTo_length] at this
  have hwr : wrap64 ((zs.length : Int) - 1) = (zs.length : Int) - 1 := wrap64_in' _ (by omega) (by omega)
  gi_wp2
  gi_loopw [3] (fun i wr => ∃ m : Nat, m ≤ zs.length ∧ i = .int .i64 ((m : Int) - 1) ∧ J (xs.take (zs.length - m)) wr ∧ KeepB K W wr) (fun i _ => (intOf i + 1).toNat)
  case atStart => exact ⟨zs.length, Nat.le_refl _, by first | rfl | simp [hwr], by simpa using h0, fun _ _ => rfl⟩
  case round =>
    obtain ⟨m, hm, rfl, hJs, hk⟩ := hrel
    cases m with
    | zero =>
      gi_wp2
      go_end0
      exact ⟨⟨_, rfl⟩, .inl ⟨xs, rfl, by rw [Nat.sub_zero, List.take_of_length_le (by omega)] at hJs; exact hJs⟩⟩
    | succ m =>
      have hne : zs ≠ [] := by rintro rfl; simp at hm
      obtain rfl := ha hne
      rw [show (((m + 1 : Nat) : Int) - 1) = (m : Int) by omega]
      obtain ⟨z, hz⟩ : ∃ z, zs[m]? = some z := ⟨_, List.getElem?_eq_getElem (by omega)⟩
      have hcx : wr.cell? ⟨b, off + m, none⟩ = some (.int .i64 z) := by have := (hk.cell (p := ⟨b, off + m, none⟩) (hb hne)).trans (hc m (by omega)); rwa [hz] at this
      have hBx : wr.cell? ⟨Bs, 0, none⟩ = some (.slice (some ⟨b, off, none⟩) zs.length cap) := (hk.cell (p := ⟨Bs, 0, none⟩) hBsK).trans hBs
      have hlt : m < zs.length := by omega
      obtain ⟨x, hx⟩ : ∃ x, xs[zs.length - (m + 1)]? = some x := ⟨_, List.getElem?_eq_getElem (by omega)⟩
      have hex : enc x = ((m : Int), z) := by
        have h1 : (xs.map enc)[zs.length - (m + 1)]? = some (enc x) := by rw [List.getElem?_map, hx]; rfl
        rw [hxs, downTo, List.getElem?_map, List.getElem?_range (by omega)] at h1
        simp only [Option.map_some, Option.some.injEq] at h1
        rw [← h1, show zs.length - 1 - (zs.length - (m + 1)) = m by omega, hz]; rfl
      have hY1 := hY _ x wr hJs (by rw [List.length_take]; omega)
      rw [hex] at hY1
      have htk : xs.take (zs.length - (m + 1)) ++ [x] = xs.take (zs.length - m) := by
        rw [show zs.length - m = (zs.length - (m + 1)) + 1 by omega, List.take_add_one, hx]; rfl
      rw [htk] at hY1
      obtain ⟨fn, tmps, assign, body, hy, hR⟩ := hY1
      dsimp only at hy
      have hwr2 : wrap64 ((m : Int) - 1) = (m : Int) - 1 := wrap64_in' _ (by omega) (by omega)
      gi_wp2
      refine hR.mono ?_
      rintro e W3 (⟨rfl, hJ3, hk3⟩ | ⟨rfl, hJx3⟩)
      · gi_wp2
        go_roundw
        case rel => exact ⟨m, by omega, by first | rfl | simp [hwr2], hJ3, fun b hb => (hk3 b hb).trans (hk b hb)⟩
        case measure => simp [intOf]
      · gi_wp2
        refine bodyPost_ret (results_none rfl _ _ _) rfl ?_
        exact ⟨⟨_, rfl⟩, .inr ⟨_, List.take_prefix _ _, hJx3⟩⟩
end Go.Proofs.YtebajiafdkokjaaDoor

/- A range over a function: the rule of the walks; calls that are handed pieces; a function that holds such a range. -/
namespace Go.Proofs.YtebajiafdkokjaaDoor
open Go Go.RowKit

/-- all else that was made so far, as it lies in W -/
def Ent.rest (U : Nat → Prop) (W : World) : Ent := ⟨U, fun w => W.heap.size ≤ w.heap.size ∧ ∀ b, U b → w.heap[b]? = W.heap[b]?⟩
def restOf (n : Nat) (W : World) (H : List Ent) : Nat → Prop := fun b => n ≤ b ∧ b < W.heap.size ∧ ¬ fps H b
/-- the block that the rounds' deferred calls would lie in -/
def Ent.mark (D : Nat) : Ent := ⟨fun k => k = D, fun w => w.heap[D]? = some (.deferred (some []))⟩

section
variable {S : Nat → Prop} {w0 wz w w' W : World} {H H1 H2 H' E F : List Ent}
theorem Wd.withRest (h : Wd S w0 H W) : Wd S w0 (Ent.rest (restOf w0.heap.size W H) W :: H) W :=
  ⟨h.chg, fun e he b hb => by
    rcases List.mem_cons.1 he with rfl | he
    · exact ⟨.inr hb.1, hb.2.1⟩
    · exact h.own e he b hb, fun e he w' hs hw' => by
    rcases List.mem_cons.1 he with rfl | he
    · exact ⟨hs, fun b hb => hw' b hb⟩
    · exact h.ok e he w' hs hw', List.pairwise_cons.2 ⟨fun f hf b hb hfb => hb.2.2 ⟨f, hf, hfb⟩, h.apart⟩⟩
/-- from the base world on, all else kept: so from any world in between -/
theorem wd_rest (hz : Chg NoS wz w) (h : Wd NoS wz (Ent.rest (restOf wz.heap.size w H1) w :: E) w') : Wd (fps H1) w E w' := by
  obtain ⟨hs, hr⟩ := h.get (k := 0) rfl
  have hap := List.pairwise_cons.1 h.apart
  refine ⟨⟨h.chg.os.trans hz.os.symm, h.chg.tape.trans hz.tape.symm, h.chg.output.trans hz.output.symm, hs, fun k hk hnS => ?_⟩, fun e he b hb => ?_, fun e he => h.ok e (List.mem_cons_of_mem _ he), hap.2⟩
  · by_cases hlt : k < wz.heap.size
    · exact (h.chg.block k hlt fun h => h).trans (hz.block k hlt fun h => h).symm
    · exact hr k ⟨by omega, hk, hnS⟩
  · obtain ⟨h1, h2⟩ := h.own e (List.mem_cons_of_mem _ he) b hb
    have h1 : wz.heap.size ≤ b := h1.elim (fun h => h.elim) id
    refine ⟨?_, h2⟩
    by_cases hlt : b < w.heap.size
    · left
      exact Classical.byContradiction fun hn => hap.1 e he b ⟨h1, hlt, hn⟩ hb
    · right; omega
theorem Wd.grown {row : Option Nat} (h : Wd S w0 H W) (hg : W.grownBy w' row) (hr : ∀ r, row = some r → w0.heap.size ≤ r ∧ ¬ fps H r) : Wd S w0 H w' := by
  have hb : ∀ b, fps H b → w'.heap[b]? = W.heap[b]? := fun b ⟨e, he, hb⟩ => hg.block b (h.own e he b hb).2 fun hrow => (hr b hrow.symm).2 ⟨e, he, hb⟩
  refine ⟨⟨hg.os.trans h.chg.os, hg.tape.trans h.chg.tape, hg.output.trans h.chg.output, Nat.le_trans h.chg.size hg.size, fun k hk hS => ?_⟩, fun e he b hb => ?_, fun e he w2 hs hw2 => ?_, h.apart⟩
  · exact (hg.block k (by have := h.chg.size; omega) fun hrow => by have := (hr k hrow.symm).1; omega).trans (h.chg.block k hk hS)
  · have := h.own e he b hb
    exact ⟨this.1, by have := hg.size; omega⟩
  · exact h.ok e he w2 (Nat.le_trans hg.size hs) fun b hbb => (hw2 b hbb).trans (hb b ⟨e, he, hbb⟩)
theorem Wd.shut {D : Nat} (h : Wd S w0 (Ent.mark D :: H) w) (hD : w0.heap.size ≤ D) (o : Obj) : Wd S w0 H (w.putObj D o) := by
  refine (h.sub (List.sublist_cons_self _ _)).grown (grownBy_putObj' w D o) fun r hr => ?_
  cases hr
  exact ⟨hD, fun ⟨f, hf, hfb⟩ => (List.pairwise_cons.1 h.apart).1 f hf D rfl hfb⟩
end
/-- pieces of plain cells -/
class CellsE (e : Ent) : Prop where
  ok : ∀ w, e.ok w → ∀ b, e.fp b → ∃ cs t z, w.heap[b]? = some (.cells cs t z)
class CellsL (H : List Ent) : Prop where
  all : ∀ e ∈ H, CellsE e
instance (b : Nat) (cs : List Value) (t : TypeId) : CellsE (Ent.box b cs t) := ⟨fun w h k hk => by subst hk; exact ⟨_, _, _, h⟩⟩
instance (a : Option Addr) (n c e s : Nat) (xs : List Value) : CellsE (Ent.vec a n c e s xs) := ⟨fun w h k hk => by
  rcases h.2 with ⟨rfl, _⟩ | ⟨g, pre, sp, rfl, _, _, _, hb⟩
  · cases hk
  · simp only [Ent.vec, Option.map_some, Option.some.injEq] at hk
    subst hk
    exact ⟨_, _, _, hb⟩⟩
instance : CellsL [] := ⟨by simp⟩
instance (e : Ent) (H : List Ent) [h : CellsE e] [hs : CellsL H] : CellsL (e :: H) := ⟨fun f hf => by
  rcases List.mem_cons.1 hf with rfl | hf
  · exact h
  · exact hs.all f hf⟩

section
variable {P : Program} {N : Nat} {ds : List Deferred} {S : Nat → Prop} {w0 : World} {L L' : List (Nat × Value)} {H H' : List Ent} {a : Act} {w : World}
  {ops : Array Oper} {rest : List Oper} {Q : Exit → Act → World → Prop} {p : Act → World → Prop}
theorem wpIn_deep {ro : Option Nat} {m n : Nat} {c : Code} (h : c.wpIn (FW ro) m P Q a w) : c.wpIn (FW ro) n P Q a w := fun b k cs hb hf _ => h b k cs hb hf (fun d hd => by cases hd)
theorem callsIn_deep {ro : Option Nat} {m n : Nat} {f : FuncId} {args : Array Value} {R : Ending → World → Prop} (h : CallsIn (FW ro) m P f args w R) : CallsIn (FW ro) n P f args w R := ⟨h.1, fun cs _ => h.2 cs (fun d hd => by cases hd)⟩

/-- a call that is handed the first pieces, through a function value -/
theorem g_callFS {α : Type} {ro : Option Nat} {val : α → Value} {E : α → List Ent} {φ : α → Prop} {H1 H2 : List Ent} {d ty f : Nat} {args : List Operand} {us vs xs : List Value} {tys : Array Nat} {x : Operand} {pos : String} {aft : Array Go.Edge} [h : EnterOk P f] [hx : Evs L args vs] [hf : Ev L x (.func (.func f) us.toArray xs.toArray)] (hd : okPut d N L = true)
    (hc : ∀ w, Wd S w0 (H1 ++ H2) w → Ret P f (us ++ vs ++ xs) w fun u w' => ∃ x, u = val x ∧ Wd (fps H1) w (E x) w' ∧ φ x)
    (k : ∀ x, φ x → G N ds S w0 ((d, val x) :: L) (E x ++ H2) (wpListIn (FW ro) 0 P ops Q rest)) : G N ds S w0 L (H1 ++ H2) (wpListIn (FW ro) 0 P ops Q (⟨some d, .call { callee := .value x, args := args.toArray, argTypes := tys }, ty, pos, aft, none⟩ :: rest)) := by
  intro a w hS
  refine g_callF (S := S) (w0 := w0) (H := H1 ++ H2) (xs := xs) (us := us) (vs := vs) (fun _ u w' => ∃ x, u = val x ∧ Wd S w0 (E x ++ H2) w' ∧ φ x) hd (fun w hw => (hc w hw).mono fun v w' ⟨x, h1, h2, h3⟩ => ⟨x, h1, hw.comp h2, h3⟩) (fun v w w' hw hR a hF => ?_) a w hS
  obtain ⟨x, rfl, h2, h3⟩ := hR
  exact k x h3 a w' ⟨hF, h2⟩
/-- a call that is handed the first pieces -/
theorem g_callS {α : Type} {ro : Option Nat} {val : α → Value} {E : α → List Ent} {φ : α → Prop} {H1 H2 : List Ent} {d ty f : Nat} {args : List Operand} {vs : List Value} {tys : Array Nat} {pos : String} {aft : Array Go.Edge} [h : EnterOk P f] [hx : Evs L args vs] (hd : okPut d N L = true)
    (hc : ∀ w, Wd S w0 (H1 ++ H2) w → Ret P f vs w fun u w' => ∃ x, u = val x ∧ Wd (fps H1) w (E x) w' ∧ φ x)
    (k : ∀ x, φ x → G N ds S w0 ((d, val x) :: L) (E x ++ H2) (wpListIn (FW ro) 0 P ops Q rest)) : G N ds S w0 L (H1 ++ H2) (wpListIn (FW ro) 0 P ops Q (⟨some d, .call { callee := .value (.func f), args := args.toArray, argTypes := tys }, ty, pos, aft, none⟩ :: rest)) := by
  intro a w hS
  refine g_call (S := S) (w0 := w0) (H := H1 ++ H2) (vs := vs) (fun _ u w' => ∃ x, u = val x ∧ Wd S w0 (E x ++ H2) w' ∧ φ x) hd (fun w hw => (hc w hw).mono fun v w' ⟨x, h1, h2, h3⟩ => ⟨x, h1, hw.comp h2, h3⟩) (fun v w w' hw hR a hF => ?_) a w hS
  obtain ⟨x, rfl, h2, h3⟩ := hR
  exact k x h3 a w' ⟨hF, h2⟩

/-! ### Pieces picked by their places -/
class SelAt (H : List Ent) (is : List Nat) (H' : outParam (List Ent)) : Prop where
  eq : is.filterMap (fun i => H[i]?) = H'
instance (H : List Ent) : SelAt H [] [] := ⟨rfl⟩
instance (H H' : List Ent) (i : Nat) (is : List Nat) (e : Ent) [h : ListAt H i e] [hs : SelAt H is H'] : SelAt H (i :: is) (e :: H') := ⟨by rw [List.filterMap_cons, h.at', hs.eq]⟩
theorem Wd.at_apart (h : Wd S w0 H w) {i j : Nat} {e f : Ent} (he : H[i]? = some e) (hf : H[j]? = some f) (hij : i ≠ j) : ∀ b, e.fp b → ¬ f.fp b := by
  obtain ⟨hi, rfl⟩ := List.getElem?_eq_some_iff.1 he
  obtain ⟨hj, rfl⟩ := List.getElem?_eq_some_iff.1 hf
  have hp := List.pairwise_iff_getElem.1 h.apart
  intro b hb hfb
  by_cases hlt : i < j
  · exact hp i j hi hj hlt b hb hfb
  · exact hp j i hj hi (by omega) b hfb hb
theorem Wd.sel (h : Wd S w0 H w) (is : List Nat) (hn : is.Nodup) [hs : SelAt H is H'] : Wd S w0 H' w := by
  rw [← hs.eq]
  refine ⟨h.chg, fun e he => ?_, fun e he => ?_, ?_⟩
  · obtain ⟨i, _, hi⟩ := List.mem_filterMap.1 he
    exact h.own e (List.mem_of_getElem? hi)
  · obtain ⟨i, _, hi⟩ := List.mem_filterMap.1 he
    exact h.ok e (List.mem_of_getElem? hi)
  · refine List.Pairwise.filterMap (R := fun i j => i ≠ j) _ (fun i j hij e he f hf => ?_) hn
    exact h.at_apart he hf hij
theorem g_sel (is : List Nat) (hn : is.Nodup) [hs : SelAt H is H'] (k : G N ds S w0 L H' p) : G N ds S w0 L H p := fun a w hS => k a w ⟨hS.fr, hS.wd.sel is hn⟩

/-! ### A function that holds a range over a function -/
theorem ret_enterM {f : FuncId} {fn : Func} {c : Code} {args : List Value} {R : Value → World → Prop} (hf : P.funcs[f]? = some fn) (hb : fn.body = some c) (hN : fn.ntmps = N) [hL : EnumIs 0 args L] (hlen : args.length.ble N = true) (hW : Wd S w0 H w)
    (h : G N [] S w0 L H (Code.wpIn (FW none) 0 P c (bodyPostM (FW none) 0 P fn fun e w' => ∃ v, e = .returned v ∧ R v w'))) : Ret P f args w R := by
  subst hN
  refine callsIn_of_wp_marks hf hb trivial (h _ _ ⟨?_, hW⟩)
  rw [← hL.eq]
  exact fr_enter (Nat.le_of_ble_eq_true hlen)
/-- the like of 'ret_enter', from an elder world on -/
theorem ret_enterZ {f : FuncId} {fn : Func} {c : Code} {args : List Value} {R : Value → World → Prop} (hf : P.funcs[f]? = some fn) (hb : fn.body = some c) (hN : fn.ntmps = N) [hL : EnumIs 0 args L] (hlen : args.length.ble N = true) (hW : Wd S w0 H w)
    (h : G N [] S w0 L H (Code.wpIn (FW none) 0 P c (bodyPost P fn fun e w' => ∃ v, e = .returned v ∧ R v w'))) : Ret P f args w R := by
  subst hN
  refine callsIn_of_wp hf hb trivial (h _ _ ⟨?_, hW⟩)
  rw [← hL.eq]
  exact fr_enter (Nat.le_of_ble_eq_true hlen)
theorem leaves_mark {fn : Func} {tmps : Array Value} {R : Value → World → Prop} {D : Nat} {v : Value} (hD : w0.heap.size ≤ D) (hW : Wd S w0 (Ent.mark D :: H) w) (hr : ∀ w, (results fn tmps).run P w = .ok v w) (hR : ∀ w, Wd S w0 H w → R v w) :
    LeavesInM (FW none) 0 P fn tmps (fun e w' => ∃ v, e = .returned v ∧ R v w') [⟨.collected D, #[]⟩] .returning w := by
  refine ⟨by simp, .inl ⟨D, _, rfl, run_takeDeferred (hW.get (k := 0) rfl), ?_⟩⟩
  exact ⟨v, hr _, v, rfl, hR _ (hW.shut hD _)⟩
theorem g_endM0 {fn : Func} {R : Value → World → Prop} {D : Nat} (hr : fn.results = #[]) (hD : w0.heap.size ≤ D) (hR : ∀ w, Wd S w0 H w → R (.tuple #[]) w) : G N [⟨.collected D, #[]⟩] S w0 L (Ent.mark D :: H) (bodyPostM (FW none) 0 P fn (fun e w' => ∃ v, e = .returned v ∧ R v w') .normal) := fun a w hS => by
  show LeavesInM _ _ _ _ _ _ _ _ _
  rw [hS.fr.defers]
  exact leaves_mark hD hS.wd (fun w => results_none hr _ _ _) hR
theorem g_retM1 {fn : Func} {R : Value → World → Prop} {D t : Nat} {v : Value} (hr : fn.results = #[.tmp t]) [hv : SlotIs L t v] (hD : w0.heap.size ≤ D) (hR : ∀ w, Wd S w0 H w → R v w) : G N [⟨.collected D, #[]⟩] S w0 L (Ent.mark D :: H) (bodyPostM (FW none) 0 P fn (fun e w' => ∃ v, e = .returned v ∧ R v w') .ret) := fun a w hS => by
  show LeavesInM _ _ _ _ _ _ _ _ _
  rw [hS.fr.defers]
  exact leaves_mark hD hS.wd (fun w => by rw [results_tmp hr]; simp [Array.getD_eq_getD_getElem?, hS.fr.slot _ hv.mem]) hR

/-! ### The range -/
/-- behind a round -/
def Rnd {σ : Type} (S : Nat → Prop) (w0 : World) (I : σ → Prop) (R : Ent) (Hc : σ → List Ent) (F : List Ent) : Act → World → Prop := fun _ w => ∃ s, I s ∧ Wd S w0 (R :: (Hc s ++ F)) w
theorem g_rnd {σ : Type} {I : σ → Prop} {R : Ent} {Hc : σ → List Ent} {F : List Ent} (s : σ) (hI : I s) (hH : (R :: (Hc s ++ F)).Sublist H) : G N ds S w0 L H (Rnd S w0 I R Hc F) := fun _ _ hS => ⟨s, hI, hS.wd.sub hH⟩
theorem g_range {α σ : Type} {g : Operand} {ps : Array Tmp} {assign body : Code} {gf : Nat} {lb : List Value} [hg : Ev L g (.func (.func gf) #[] lb.toArray)] [eg : EnterOk P gf] (F : List Ent) (Hc : σ → List Ent) (hcl : ∀ s, CellsL (Hc s)) (xs : List α) {encs : α → Array Value}
    {Bs : Nat} {bcs : List Value} {bt : TypeId} (hBs : Ent.box Bs bcs bt ∈ F)
    (hseq : ∀ w, Wd S w0 H w → SeqStopsK (FW none) 4 P gf lb.toArray encs (KeepB fun b => (b < w0.heap.size ∧ ¬ S b) ∨ b = Bs) (fun ys => ys = xs) (fun pre => pre <+: xs) xs.length w)
    (I : List α → σ → Prop) (s0 : σ) (h0 : I [] s0) (hH : (Hc s0 ++ F).Sublist H) (hps : ∀ x, (encs x).size = ps.size)
    (L0 La : α → List (Nat × Value)) (hput : ∀ x a, Fr N ds L a → Fr N [] (L0 x) { tmps := (ps.zip (encs x)).foldl (fun t (p, v) => t.setIfInBounds p v) a.tmps, defers := [] })
    (hassign : ∀ (l : Nat) (x : α) (s : σ) (R : Ent), G N [] S w0 (L0 x) (R :: (Hc s ++ F)) (assign.wpIn (FW (some l)) 0 P (Exit.then (St N [] S w0 (La x) (R :: (Hc s ++ F))) (fun _ _ _ => False))))
    (hbody : ∀ (l : Nat) (pre : List α) (x : α) (s : σ) (R : Ent), I pre s → pre.length < xs.length → G N [] S w0 (La x) (R :: (Hc s ++ F)) (body.wpIn (FW (some l)) 0 P (Exit.then (Rnd S w0 (I (pre ++ [x])) R Hc F) (fun _ _ _ => False))))
    (k : ∀ D s, w0.heap.size ≤ D → I xs s → G N (⟨.collected D, #[]⟩ :: ds) S w0 L (Ent.mark D :: (Hc s ++ F)) (Q .normal)) : G N ds S w0 L H (Code.wpIn (FW none) 0 P (Code.rangeFunc g ps assign body) Q) := fun a w hS => by
  have hsz := hS.wd.size
  have hF : ∀ e ∈ F, ∀ b, e.fp b → b < w.heap.size := fun e he b hb => (hS.wd.own e (hH.subset (List.mem_append_right _ he)) b hb).2
  have hcell : ∀ s W, Wd S w0 (Hc s ++ F) W → ∀ r o, W.heap[r]? = some o → o.isCells = false → w.heap.size ≤ r → ¬ fps (Hc s ++ F) r := by
    rintro s W hW r o ho hn hle ⟨e, he, hb⟩
    rcases List.mem_append.1 he with he | he
    · obtain ⟨j, hj⟩ := List.getElem?_of_mem (List.mem_append_left F he)
      obtain ⟨cs, t, z, hc⟩ := ((hcl s).all e he).ok W (hW.get hj) r hb
      rw [hc] at ho
      cases ho
      cases hn
    · have := hF e he r hb; omega
  have hbox : ∀ s W, Wd S w0 (Hc s ++ F) W → W.heap[Bs]? = some (.cells bcs.toArray bt (0, 0)) := fun s W hW => by
    obtain ⟨j, hj⟩ := List.getElem?_of_mem (List.mem_append_right (Hc s) hBs)
    exact hW.get hj
  have hout : ∀ s s' W W', Wd S w0 (Hc s ++ F) W → Wd S w0 (Ent.rest (restOf w0.heap.size W (Hc s ++ F)) W :: (Hc s' ++ F)) W' → KeepsFrom w.heap.size W W' ∧ KeepB (fun b => (b < w0.heap.size ∧ ¬ S b) ∨ b = Bs) W W' := by
    intro s s' W W' hW hW'
    obtain ⟨hs, hr⟩ := hW'.get (k := 0) rfl
    refine ⟨⟨hs, fun j o hj ho hn => ?_⟩, fun b hb => ?_⟩
    · exact (hr j ⟨by omega, (Array.getElem?_eq_some_iff.1 ho).1, hcell s W hW j o ho hn hj⟩).trans ho
    · rcases hb with ⟨h1, h2⟩ | rfl
      · exact (hW'.chg.block b h1 h2).trans (hW.chg.block b h1 h2).symm
      · exact (hbox s' W' (hW'.sub (List.sublist_cons_self _ _))).trans (hbox s W hW).symm
  refine wpIn_deep (m := 5) ?_
  refine wpIn_rangeFunc_ownH (F := FW none) (n := 5) (w0 := w) rfl (by omega) (hg.eq _ _ _ hS.fr) trivial (fun args w => eg.run args w) (hseq w hS.wd) (fun h1 h2 b hb => (h2 b hb).trans (h1 b hb)) (fun W l o o' hl _ _ _ b hb => ?_) (Below.refl _ _) hps
    (fun pre W => ∃ s, I pre s ∧ Wd S w0 (Hc s ++ F) W) (fun _ _ _ => False) (fun pre W W' row ⟨s, hI, hW⟩ hg hr => ⟨s, hI, hW.grown hg fun r e => ?_⟩) (fun _ _ _ _ _ h => h.elim) ⟨s0, h0, hS.wd.sub hH⟩ (fun x a' _ => Fr N [] (La x) a') (fun _ _ _ _ _ _ h _ _ => h) ?_ ?_ ?_ ?_
  · have hlt : b < w.heap.size := by
      rcases hb with ⟨h1, _⟩ | rfl
      · omega
      · exact hF _ hBs b rfl
    exact World.putObj_heap_other (by omega)
  · obtain ⟨h1, o, ho, hn⟩ := hr r e
    exact ⟨by omega, hcell s W hW r o ho hn h1⟩
  · rintro l pre x W K ⟨s, hI, hW⟩ hK
    refine wpIn_deep (m := 0) ?_
    refine Code.wpIn_mono (fun e a' W' q => ?_) (hassign l x s _ _ W ⟨hput x a hS.fr, hW.withRest⟩)
    cases e with
    | normal =>
      have ho := hout s s W W' hW q.wd
      exact hK a' W' ho.1 ho.2 ⟨s, hI, q.wd.sub (List.sublist_cons_self _ _)⟩ q.fr
    | _ => exact q.elim
  · rintro l pre x a' W _ _ ⟨s, hI, hW⟩ ha hlt
    refine wpIn_deep (m := 0) ?_
    refine Code.wpIn_mono (fun e a' W' q => ?_) (hbody l pre x s _ hI hlt a' W ⟨ha, hW.withRest⟩)
    cases e with
    | normal =>
      obtain ⟨s', hI', hW'⟩ := q
      have ho := hout s s' W W' hW hW'
      exact ⟨ho.1, ho.2, s', hI', hW'.sub (List.sublist_cons_self _ _)⟩
    | _ => exact q.elim
  · rintro D ys W hD rfl ⟨s, hI, hW⟩ hd
    refine k D s (by omega) hI _ W ⟨⟨hS.fr.size, by rw [hS.fr.defers], hS.fr.slot⟩, ?_⟩
    have hn : ¬ fps (Hc s ++ F) D := hcell s W hW D _ hd rfl hD
    exact ⟨hW.chg, fun e he b hb => by
      rcases List.mem_cons.1 he with rfl | he
      · cases hb
        exact ⟨.inr (by omega), (Array.getElem?_eq_some_iff.1 hd).1⟩
      · exact hW.own e he b hb, fun e he w2 hs hw2 => by
      rcases List.mem_cons.1 he with rfl | he
      · exact (hw2 D rfl).trans hd
      · exact hW.ok e he w2 hs hw2, List.pairwise_cons.2 ⟨fun f hf b hb hfb => by cases hb; exact hn ⟨f, hf, hfb⟩, hW.apart⟩⟩
  · intro D c pre W _ _ h
    exact h.elim
end
end Go.Proofs.YtebajiafdkokjaaDoor

/- Going from block to block, each once, as plain functions and facts. No program in sight. -/
namespace Go.Proofs.YtebajiafdkokjaaDoor
open Go Go.RowKit

/-- blocks as they are left; of each its targets from the last to the first -/
def dfs (bl : List LBlock) : Nat → Nat → List Bool × List Nat → List Bool × List Nat
  | 0, _, st => st
  | f + 1, b, st =>
    let r := ((toOf bl b).reverse.map Int.toNat).foldl (fun st t => if st.1[t]?.getD true then st else dfs bl f t st) (st.1.set b true, st.2)
    (r.1, r.2 ++ [b])
def vstep (bl : List LBlock) (f : Nat) (st : List Bool × List Nat) (t : Nat) : List Bool × List Nat := if st.1[t]?.getD true then st else dfs bl f t st
theorem dfs_succ (bl : List LBlock) (f b : Nat) (st : List Bool × List Nat) : dfs bl (f + 1) b st = ((((toOf bl b).reverse.map Int.toNat).foldl (vstep bl f) (st.1.set b true, st.2)).1, (((toOf bl b).reverse.map Int.toNat).foldl (vstep bl f) (st.1.set b true, st.2)).2 ++ [b]) := rfl
theorem getD_false {l : List Bool} {t : Nat} (h : (l[t]?.getD true) = false) : l[t]? = some false := by
  cases hq : l[t]? with
  | none => rw [hq] at h; cases h
  | some v => rw [hq] at h; simp at h; rw [h]
theorem vstep_cases {bl : List LBlock} {f t : Nat} {st : List Bool × List Nat} : vstep bl f st t = st ∨ (st.1[t]? = some false ∧ vstep bl f st t = dfs bl f t st) := by
  unfold vstep
  by_cases h : st.1[t]?.getD true = true
  · rw [if_pos h]; exact .inl rfl
  · rw [if_neg h]; exact .inr ⟨getD_false (by simpa using h), rfl⟩
theorem foldl_inv {α β : Type} {p : β → Prop} {g : β → α → β} {b : β} (hg : ∀ b a, p b → p (g b a)) (hb : p b) : ∀ l : List α, p (l.foldl g b)
  | [] => hb
  | a :: l => foldl_inv hg (hg b a hb) l

/-- what a going-through keeps: the length, what is seen; and the list grows by no more than is newly seen -/
def Grows (st st' : List Bool × List Nat) : Prop := st'.1.length = st.1.length ∧ (∀ x : Nat, st.1[x]? = some true → st'.1[x]? = some true) ∧ unseen st'.1 ≤ unseen st.1 ∧ st'.2.length + unseen st'.1 ≤ st.2.length + unseen st.1
theorem Grows.refl (st : List Bool × List Nat) : Grows st st := ⟨rfl, fun _ h => h, Nat.le_refl _, Nat.le_refl _⟩
theorem Grows.trans {a b c : List Bool × List Nat} (h : Grows a b) (k : Grows b c) : Grows a c := ⟨k.1.trans h.1, fun x hx => k.2.1 x (h.2.1 x hx), Nat.le_trans k.2.2.1 h.2.2.1, Nat.le_trans k.2.2.2 h.2.2.2⟩
theorem set_true {l : List Bool} {b x : Nat} (h : l[x]? = some true) : (l.set b true)[x]? = some true := by
  rw [List.getElem?_set]
  split
  · rename_i e; subst e
    rw [if_pos (List.getElem?_eq_some_iff.1 h).1]
  · exact h
theorem dfs_grows (bl : List LBlock) : ∀ (f b : Nat) (st : List Bool × List Nat), st.1[b]? = some false → Grows st (dfs bl f b st)
  | 0, b, st, _ => Grows.refl st
  | f + 1, b, st, hb => by
    have hu := unseen_set hb
    have h1 : ∀ st1, Grows (st.1.set b true, st.2) st1 → ∀ t, Grows (st.1.set b true, st.2) (vstep bl f st1 t) := fun st1 h t => by
      rcases vstep_cases (bl := bl) (f := f) (t := t) (st := st1) with e | ⟨hf, e⟩
      · rw [e]; exact h
      · rw [e]; exact h.trans (dfs_grows bl f t st1 hf)
    have h2 := foldl_inv (p := Grows (st.1.set b true, st.2)) (g := vstep bl f) (fun st1 t h => h1 st1 h t) (Grows.refl _) ((toOf bl b).reverse.map Int.toNat)
    rw [dfs_succ]
    refine ⟨by have := h2.1; simpa using this, fun x hx => h2.2.1 x (set_true hx), ?_, ?_⟩
    · have := h2.2.2.1; simp only at this ⊢; omega
    · have := h2.2.2.2; simp only [List.length_append, List.length_singleton] at this ⊢; omega
theorem vsteps_grows (bl : List LBlock) (f : Nat) (st : List Bool × List Nat) (l : List Nat) : Grows st (l.foldl (vstep bl f) st) :=
  foldl_inv (p := Grows st) (g := vstep bl f) (fun st1 t h => by
    rcases vstep_cases (bl := bl) (f := f) (t := t) (st := st1) with e | ⟨hf, e⟩
    · rw [e]; exact h
    · rw [e]; exact h.trans (dfs_grows bl f t st1 hf)) (Grows.refl _) l
theorem dfs_self (bl : List LBlock) (f b : Nat) (st : List Bool × List Nat) (hb : st.1[b]? = some false) : (dfs bl (f + 1) b st).1[b]? = some true := by
  rw [dfs_succ]
  refine (vsteps_grows bl f _ _).2.1 b ?_
  have hlt := (List.getElem?_eq_some_iff.1 hb).1
  simp [hlt]
/-- what was seen can be come to; the list holds what is newly seen -/
theorem GoodB.nat {bl : List LBlock} (h : GoodB bl) {b : Nat} {z : Int} (hz : z ∈ toOf bl b) : ((z.toNat : Nat) : Int) = z := by
  unfold toOf at hz
  split at hz
  · rename_i B hB
    have := (h B (List.mem_of_getElem? hB)).2 z hz
    omega
  · cases hz
theorem dfs_sound (bl : List LBlock) (hok : GoodB bl) : ∀ (f b : Nat) (st : List Bool × List Nat), st.1[b]? = some false →
    (∀ x, (dfs bl f b st).1[x]? = some true → st.1[x]? = some true ∨ Rch bl (-1) b x) ∧ ∀ x, x ∈ (dfs bl f b st).2 ↔ (x ∈ st.2 ∨ (st.1[x]? = some false ∧ (dfs bl f b st).1[x]? = some true))
  | 0, b, st, _ => ⟨fun x hx => .inl hx, fun x => ⟨.inl, fun h => h.elim id fun ⟨h1, h2⟩ => by rw [show (dfs bl 0 b st).1 = st.1 from rfl, h1] at h2; cases h2⟩⟩
  | f + 1, b, st, hb => by
    have hlt := (List.getElem?_eq_some_iff.1 hb).1
    have key : ∀ (l : List Nat), (∀ t ∈ l, Edge bl b t) → ∀ st1 : List Bool × List Nat, Grows (st.1.set b true, st.2) st1 →
        ((∀ x, st1.1[x]? = some true → st.1[x]? = some true ∨ Rch bl (-1) b x) ∧ ∀ x, x ∈ st1.2 ↔ (x ∈ st.2 ∨ (x ≠ b ∧ st.1[x]? = some false ∧ st1.1[x]? = some true))) →
        ((∀ x, (l.foldl (vstep bl f) st1).1[x]? = some true → st.1[x]? = some true ∨ Rch bl (-1) b x) ∧ ∀ x, x ∈ (l.foldl (vstep bl f) st1).2 ↔ (x ∈ st.2 ∨ (x ≠ b ∧ st.1[x]? = some false ∧ (l.foldl (vstep bl f) st1).1[x]? = some true))) := by
      intro l
      induction l with
      | nil => exact fun _ st1 _ h => h
      | cons t l ih =>
        intro hl st1 hg h
        simp only [List.foldl_cons]
        rcases vstep_cases (bl := bl) (f := f) (t := t) (st := st1) with e | ⟨hf, e⟩
        · rw [e]; exact ih (fun t' ht' => hl t' (List.mem_cons_of_mem _ ht')) st1 hg h
        · rw [e]
          have hd := dfs_sound bl hok f t st1 hf
          have hgd := dfs_grows bl f t st1 hf
          refine ih (fun t' ht' => hl t' (List.mem_cons_of_mem _ ht')) _ (hg.trans hgd) ⟨fun x hx => ?_, fun x => ?_⟩
          · rcases hd.1 x hx with h1 | h1
            · exact h.1 x h1
            · exact .inr (((Rch.refl).step (hl t (by simp)) (by omega)).trans h1)
          · rw [hd.2 x, h.2 x]
            constructor
            · rintro ((h1 | ⟨h1, h2, h3⟩) | ⟨h1, h2⟩)
              · exact .inl h1
              · exact .inr ⟨h1, h2, hgd.2.1 x h3⟩
              · by_cases hs : st.1[x]? = some true
                · exfalso
                  have := hg.2.1 x (set_true hs)
                  rw [h1] at this; cases this
                · have hxl : x < st.1.length := by have := (List.getElem?_eq_some_iff.1 h1).1; have := hg.1; simp at this; omega
                  have hsf : st.1[x]? = some false := by
                    rw [List.getElem?_eq_getElem hxl] at hs ⊢
                    cases hv : st.1[x]
                    · rfl
                    · rw [hv] at hs; exact absurd rfl hs
                  refine .inr ⟨fun e => ?_, hsf, h2⟩
                  subst e
                  have := hg.2.1 x (by simp [hlt])
                  rw [h1] at this; cases this
            · rintro (h1 | ⟨h1, h2, h3⟩)
              · exact .inl (.inl h1)
              · by_cases hs : st1.1[x]? = some true
                · exact .inl (.inr ⟨h1, h2, hs⟩)
                · refine .inr ⟨?_, h3⟩
                  have hxl : x < st1.1.length := by have := (List.getElem?_eq_some_iff.1 h2).1; have := hg.1; simp at this; omega
                  rw [List.getElem?_eq_getElem hxl] at hs ⊢
                  cases hv : st1.1[x]
                  · rfl
                  · rw [hv] at hs; exact absurd rfl hs
    have hfin := key ((toOf bl b).reverse.map Int.toNat) (fun t ht => ?_) (st.1.set b true, st.2) (Grows.refl _) ⟨fun x hx => ?_, fun x => ?_⟩
    · rw [dfs_succ]
      refine ⟨hfin.1, fun x => ?_⟩
      simp only [List.mem_append, List.mem_singleton]
      rw [hfin.2 x]
      constructor
      · rintro ((h1 | ⟨_, h2, h3⟩) | rfl)
        · exact .inl h1
        · exact .inr ⟨h2, h3⟩
        · exact .inr ⟨hb, (vsteps_grows bl f _ _).2.1 x (by simp [hlt])⟩
      · rintro (h1 | ⟨h2, h3⟩)
        · exact .inl (.inl h1)
        · by_cases e : x = b
          · exact .inr e
          · exact .inl (.inr ⟨e, h2, h3⟩)
    · obtain ⟨z, hz, rfl⟩ := List.mem_map.1 ht
      unfold Edge
      have hz : z ∈ toOf bl b := by simpa using hz
      rw [hok.nat hz]
      exact hz
    · simp only [List.getElem?_set] at hx
      by_cases e : b = x
      · subst e; exact .inr Rch.refl
      · rw [if_neg e] at hx; exact .inl hx
    · constructor
      · exact .inl
      · rintro (h | ⟨h1, h2, h3⟩)
        · exact h
        · simp only [List.getElem?_set] at h3
          rw [if_neg (Ne.symm h1), h2] at h3
          cases h3
theorem unseen_pos {l : List Bool} {t : Nat} (h : l[t]? = some false) : 1 ≤ unseen l := by have := unseen_set h; omega
theorem vstep_seen {bl : List LBlock} {f t : Nat} {st : List Bool × List Nat} (ht : t < st.1.length) (hu : unseen st.1 ≤ f) : (vstep bl f st t).1[t]? = some true := by
  unfold vstep
  by_cases h : st.1[t]?.getD true = true
  · rw [if_pos h]
    rw [List.getElem?_eq_getElem ht] at h ⊢
    simpa using h
  · rw [if_neg h]
    have hf := getD_false (by simpa using h)
    have := unseen_pos hf
    obtain ⟨m, rfl⟩ : ∃ m, f = m + 1 := ⟨f - 1, by omega⟩
    exact dfs_self bl m t st hf
theorem dfs_closed (bl : List LBlock) (hok : GoodB bl) : ∀ (f b : Nat) (st : List Bool × List Nat), st.1.length = bl.length → st.1[b]? = some false → unseen st.1 ≤ f →
    ∀ x, (dfs bl f b st).1[x]? = some true → st.1[x]? = some true ∨ ∀ y, Edge bl x y → (dfs bl f b st).1[y]? = some true
  | 0, b, st, _, hb, hu => by have := unseen_pos hb; omega
  | f + 1, b, st, hl, hb, hu => by
    have hus := unseen_set hb
    have key : ∀ (l : List Nat), (∀ t ∈ l, t < bl.length) → ∀ st1 : List Bool × List Nat, Grows (st.1.set b true, st.2) st1 →
        (∀ x, st1.1[x]? = some true → st.1[x]? = some true ∨ x = b ∨ ∀ y, Edge bl x y → st1.1[y]? = some true) →
        (∀ x, (l.foldl (vstep bl f) st1).1[x]? = some true → st.1[x]? = some true ∨ x = b ∨ ∀ y, Edge bl x y → (l.foldl (vstep bl f) st1).1[y]? = some true) ∧ ∀ t ∈ l, (l.foldl (vstep bl f) st1).1[t]? = some true := by
      intro l
      induction l with
      | nil => exact fun _ st1 _ h => ⟨h, by simp⟩
      | cons t l ih =>
        intro hlt st1 hg h
        simp only [List.foldl_cons]
        have hl1 : st1.1.length = bl.length := by have := hg.1; simp at this; omega
        have hu1 : unseen st1.1 ≤ f := by have := hg.2.2.1; simp only at this; omega
        have hs1 : (vstep bl f st1 t).1[t]? = some true := vstep_seen (by have := hlt t (by simp); omega) hu1
        have hgs : Grows st1 (vstep bl f st1 t) := by
          rcases vstep_cases (bl := bl) (f := f) (t := t) (st := st1) with e | ⟨hf, e⟩
          · rw [e]; exact Grows.refl _
          · rw [e]; exact dfs_grows bl f t st1 hf
        have := ih (fun t' ht' => hlt t' (List.mem_cons_of_mem _ ht')) (vstep bl f st1 t) (hg.trans hgs) fun x hx => ?_
        · refine ⟨this.1, fun t' ht' => ?_⟩
          rcases List.mem_cons.1 ht' with rfl | ht'
          · exact (vsteps_grows bl f _ l).2.1 _ hs1
          · exact this.2 t' ht'
        · have up : ∀ y, st1.1[y]? = some true → (vstep bl f st1 t).1[y]? = some true := hgs.2.1
          rcases vstep_cases (bl := bl) (f := f) (t := t) (st := st1) with e | ⟨hf, e⟩
          · rw [e] at hx ⊢; exact h x hx
          · rw [e] at hx up ⊢
            rcases dfs_closed bl hok f t st1 hl1 hf hu1 x hx with h1 | h1
            · rcases h x h1 with h2 | h2 | h2
              · exact .inl h2
              · exact .inr (.inl h2)
              · exact .inr (.inr fun y hy => up y (h2 y hy))
            · exact .inr (.inr h1)
    have hfin := key ((toOf bl b).reverse.map Int.toNat) (fun t ht => ?_) (st.1.set b true, st.2) (Grows.refl _) fun x hx => ?_
    · intro x hx
      rw [dfs_succ] at hx ⊢
      rcases hfin.1 x hx with h1 | rfl | h1
      · exact .inl h1
      · refine .inr fun y hy => hfin.2 y ?_
        refine List.mem_map.2 ⟨(y : Int), ?_, by simp⟩
        rw [List.mem_reverse]
        exact hy
      · exact .inr h1
    · obtain ⟨z, hz, rfl⟩ := List.mem_map.1 ht
      have hz : z ∈ toOf bl b := by simpa using hz
      exact hok.edge (x := b) (by unfold Edge; rw [hok.nat hz]; exact hz)
    · simp only [List.getElem?_set] at hx
      by_cases e : b = x
      · exact .inr (.inl e.symm)
      · rw [if_neg e] at hx; exact .inl hx
/-- all that block 0 comes to, as it is left -/
def postL (bl : List LBlock) : List Nat := (dfs bl bl.length 0 (List.replicate bl.length false, [])).2
theorem unseen_all (n : Nat) : unseen (List.replicate n false) = n := by simp [unseen]
theorem postL_mem {bl : List LBlock} (hok : GoodB bl) (h0 : 0 < bl.length) {x : Nat} : x ∈ postL bl ↔ Rch bl (-1) 0 x := by
  have hb : (List.replicate bl.length false)[0]? = some false := by simp [h0]
  have hs := dfs_sound bl hok bl.length 0 (List.replicate bl.length false, []) hb
  have hc := dfs_closed bl hok bl.length 0 (List.replicate bl.length false, []) (by simp) hb (by rw [unseen_all]; exact Nat.le_refl _)
  have hself : (dfs bl bl.length 0 (List.replicate bl.length false, [])).1[0]? = some true := by
    obtain ⟨m, hm⟩ : ∃ m, bl.length = m + 1 := ⟨bl.length - 1, by omega⟩
    rw [hm] at hb ⊢
    exact dfs_self bl m 0 _ hb
  have hno : ∀ x, ¬ ((List.replicate bl.length false)[x]? = some true) := fun x h => by
    rw [List.getElem?_replicate] at h
    split at h <;> simp at h
  unfold postL
  rw [hs.2 x]
  constructor
  · rintro (h | ⟨_, h⟩)
    · cases h
    · exact (hs.1 x h).resolve_left (hno x)
  · intro h
    have hx := rch_closed (p := fun x => (dfs bl bl.length 0 (List.replicate bl.length false, [])).1[x]? = some true) hself (fun x y hx he _ => (hc x hx).resolve_left (hno x) y he) h
    have hlt := hok.rch h0 h
    exact .inr ⟨by simp [hlt], hx⟩
theorem postL_lt {bl : List LBlock} (hok : GoodB bl) (h0 : 0 < bl.length) {x : Nat} (h : x ∈ postL bl) : x < bl.length := hok.rch h0 ((postL_mem hok h0).1 h)
theorem postL_len {bl : List LBlock} (h0 : 0 < bl.length) : (postL bl).length ≤ bl.length := by
  have hb : (List.replicate bl.length false)[0]? = some false := by simp [h0]
  have := (dfs_grows bl bl.length 0 (List.replicate bl.length false, []) hb).2.2.2
  rw [unseen_all] at this
  unfold postL
  simp only [List.length_nil] at this
  omega
end Go.Proofs.YtebajiafdkokjaaDoor

/- Ends that can be reached, blocks that every way to an end meets, control dependences: as plain facts. No program in sight. -/
namespace Go.Proofs.YtebajiafdkokjaaDoor
open Go Go.RowKit

def kindOf (bl : List LBlock) (i : Nat) : Int := match bl[i]? with | some b => b.kind | none => 0
def CanEnd (bl : List LBlock) (wo : Int) (b : Nat) : Prop := (b : Int) ≠ wo ∧ ∃ x, Rch bl wo b x ∧ kindOf bl x = 1
theorem canEnd_kind {bl : List LBlock} {wo : Int} {b : Nat} (hb : (b : Int) ≠ wo) (h : kindOf bl b = 1) : CanEnd bl wo b := ⟨hb, b, Rch.refl, h⟩
theorem canEnd_step {bl : List LBlock} {wo : Int} {b t : Nat} (hb : (b : Int) ≠ wo) (he : Edge bl b t) (h : CanEnd bl wo t) : CanEnd bl wo b := by
  obtain ⟨ht, x, hr, hk⟩ := h
  exact ⟨hb, x, (Rch.refl.step he ht).trans hr, hk⟩
theorem rch_ne {bl : List LBlock} {wo : Int} {b x : Nat} (hb : (b : Int) ≠ wo) (h : Rch bl wo b x) : (x : Int) ≠ wo := by
  cases h with
  | refl => exact hb
  | step _ _ hw => exact hw
/-- what holds of every end and steps back along edges holds wherever an end can be reached -/
theorem canEnd_closed {bl : List LBlock} {wo : Int} {p : Nat → Prop} (h1 : ∀ x, x < bl.length → (x : Int) ≠ wo → kindOf bl x = 1 → p x) (h2 : ∀ x y, x < bl.length → (x : Int) ≠ wo → Edge bl x y → p y → p x)
    {b : Nat} (hb : b < bl.length) (hok : GoodB bl) (h : CanEnd bl wo b) : p b := by
  obtain ⟨hne, x, hr, hk⟩ := h
  have key : ∀ x, Rch bl wo b x → p x → p b := by
    intro x hr
    induction hr with
    | refl => exact id
    | step hr' he _ ih => exact fun hp => ih (h2 _ _ (hok.rch hb hr') (rch_ne hne hr') he hp)
  exact key x hr (h1 x (hok.rch hb hr) (rch_ne hne hr) hk)
def Sure (bl : List LBlock) (b c : Nat) : Prop := CanEnd bl (-1) b ∧ ¬ CanEnd bl c b
def Hangs (bl : List LBlock) (b c : Nat) : Prop := (∃ t ∈ toOf bl b, Sure bl t.toNat c) ∧ (c = b ∨ ¬ Sure bl b c)
open Classical in
noncomputable def endsOf (bl : List LBlock) (wo : Int) : List Bool := (List.range bl.length).map fun x => decide (CanEnd bl wo x)
open Classical in
theorem endsOf_get {bl : List LBlock} {wo : Int} {x : Nat} (h : x < bl.length) : (endsOf bl wo)[x]? = some (decide (CanEnd bl wo x)) := by simp [endsOf, h]
theorem endsOf_length (bl : List LBlock) (wo : Int) : (endsOf bl wo).length = bl.length := by simp [endsOf]
open Classical in
noncomputable def sureRow (bl : List LBlock) (b : Nat) : List Bool := (List.range bl.length).map fun c => decide (Sure bl b c)
open Classical in
theorem sureRow_get {bl : List LBlock} {b c : Nat} (h : c < bl.length) : (sureRow bl b)[c]? = some (decide (Sure bl b c)) := by simp [sureRow, h]
open Classical in
noncomputable def sureTo (bl : List LBlock) (b n : Nat) : List Nat := (List.range n).filter fun c => decide (Sure bl b c)
open Classical in
noncomputable def hangTo (bl : List LBlock) (b n : Nat) : List Nat := (List.range n).filter fun c => decide (Hangs bl b c)
open Classical in
theorem filterTo_succ {p : Nat → Prop} (n : Nat) : (List.range (n + 1)).filter (fun c => decide (p c)) = (List.range n).filter (fun c => decide (p c)) ++ (if p n then [n] else []) := by
  rw [List.range_succ, List.filter_append]
  congr 1
  by_cases h : p n <;> simp [h]
end Go.Proofs.YtebajiafdkokjaaDoor

/- dom.ends: from which blocks an end can be reached. -/
namespace Go.Proofs.YtebajiafdkokjaaDoor
open Go Go.RowKit
attribute [local irreducible] wpListIn Code.wpIn Exit.then Exit.inBlock bodyPost wpQuiet wpAnyIn
set_option maxHeartbeats 2000000

theorem bools_sl {S : Nat → Prop} {w0 w : World} {H : List Ent} {k c n e : Nat} {a : Option Addr} {l : List Bool} (h : Wd S w0 H w) (hk : H[k]? = some (Ent.vec a n c e 1 (l.map .bool))) (hn : n = l.length) (hb : n ≤ 100000) : SlAt w (.slice a n c) 1 l BoolV := by
  refine h.slAt hk hn (by omega) fun i x hx => ⟨[.bool x], fun j v hj => ?_, rfl⟩
  match j, hj with
  | 0, hj => simpa [hx] using hj
theorem endsOne_c (b _n : Nat) (v : Value) (l : List Bool) (x : Int) (k : Nat) (hk : x = k) (hkl : k < l.length) (w0 : World) (hc : CellsAt w0 b 0 [v]) (hv : SlAt w0 v 1 l BoolV) :
    RetV Tryd.prog 118 [.int .i64 x, .pointer (some ⟨b, 0, none⟩)] w0 (.bool (l[x.toNat]?.getD false)) := by
  obtain ⟨a, m, c, vb, vo, rfl, hn, hnc, hnb, hcc, ha, hel⟩ := hv
  have hci : CellsIs w0 b 0 _ := ⟨hc⟩
  obtain ⟨y, hy⟩ : ∃ y, l[k]? = some y := ⟨_, List.getElem?_eq_getElem hkl⟩
  have had : AddrIs a vb vo := ⟨ha (ne_of_get hy)⟩
  have hli : LtIs k m := ⟨by omega⟩
  have hni : NatIs x k := ⟨hk⟩
  obtain ⟨cs, hcs, rfl⟩ := hel k y hy
  have hcii : CellsIs w0 vb (vo + k * 1) _ := ⟨hcs⟩
  refine ret_enter Tryd.func118 rfl Tryd.ntmps118 rfl (Wd.nil NoS w0) ?_
  repeat (first | refine g_op rfl ?_ | refine g_then ?_ | refine g_nil ?_ | refine g_region ?_ | refine g_seq ?_ | refine g_opS rfl ?_ | refine g_ret ?_)
  exact g_retV rfl (by rw [hk]; simp [hy])

theorem ends_c (nm pa re : Value) (bl : List LBlock) (bs : Value) (wo : Int) (w0 : World) (hbs : SlAt w0 bs 6 bl BlockV) (hlen : bl.length ≤ 100) (hok : GoodB bl) :
    Ret Tryd.prog 85 [.agg #[nm, pa, re, bs], .int .i64 wo] w0 fun u w' => ∃ p : Nat, u = .slice (some ⟨p, 0, none⟩) bl.length bl.length ∧ Wd NoS w0 [Ent.vec (some ⟨p, 0, none⟩) bl.length bl.length 4 1 ((endsOf bl wo).map .bool)] w' ∧ True := by
  obtain ⟨ba, n, bc, bb, bo', rfl, hn, hnc, hnb, hbc, hba, hel⟩ := hbs
  rw [← hn] at hlen ⊢
  refine ret_enter Tryd.func85 rfl Tryd.ntmps85 rfl (Wd.nil NoS w0) ?_
  repeat (first | refine g_op rfl ?_ | refine g_then ?_ | refine g_nil ?_ | refine g_region ?_ | refine g_seq ?_ | refine g_store ?_ | refine g_box rfl fun _ _ => ?_ | refine g_alloc rfl fun _ _ => ?_ | refine g_block ?_ | refine g_make rfl (by omega) (by omega) fun _ _ => ?_)
  rename_i p2 _ pv _ p5 _
  rw [show List.replicate n (Value.bool false) = (List.replicate n false).map Value.bool by simp]
  refine g_loop (fun (x : Bool × List Bool) => x.2.length = n ∧ (∀ y, x.2[y]? = some true → CanEnd bl wo y) ∧ (x.1 = false → ∀ y, y < n → (y : Int) ≠ wo → (kindOf bl y = 1 ∨ ∃ t, Edge bl y t ∧ x.2[t]? = some true) → x.2[y]? = some true))
    (fun x => [(6, .bool x.1), (5, .pointer (some ⟨p5, 0, none⟩)), (2, .pointer (some ⟨p2, 0, none⟩)), (1, .int .i64 wo)])
    (fun x => [Ent.box p5 [.slice (some ⟨pv, 0, none⟩) n n] 38, Ent.vec (some ⟨pv, 0, none⟩) n n 4 1 (x.2.map .bool), Ent.box p2 [nm, pa, re, .slice ba n bc] 35])
    (fun x => unseen x.2 * 2 + (if x.1 then 1 else 0)) (true, List.replicate n false) ⟨by simp, fun y hy => by simp [List.getElem?_replicate] at hy, by simp⟩ (g_done (by repeat (first | exact trivial | refine ⟨rfl, ?_⟩)) (List.Sublist.refl _)) fun x ⟨hol, hsound, hclosed⟩ => ?_
  obtain ⟨more, out⟩ := x
  simp only at hol hsound hclosed ⊢
  cases more
  case false =>
    have hcl := hclosed rfl
    have hfin : out = endsOf bl wo := by
      classical
      apply List.ext_getElem?
      intro y
      by_cases hy : y < n
      · rw [endsOf_get (by omega)]
        obtain ⟨sv, hsv⟩ : ∃ sv, out[y]? = some sv := ⟨_, List.getElem?_eq_getElem (by omega)⟩
        rw [hsv]
        congr 1
        cases sv
        · symm
          rw [decide_eq_false_iff_not]
          intro hr
          have := canEnd_closed (p := fun y => out[y]? = some true) (fun x hx hw hk => hcl x (by omega) hw (.inl hk)) (fun x y hx hw he hp => hcl x (by omega) hw (.inr ⟨y, he, hp⟩)) (by omega) hok hr
          rw [hsv] at this
          cases this
        · symm
          rw [decide_eq_true_eq]
          exact hsound y hsv
      · rw [List.getElem?_eq_none (by omega), List.getElem?_eq_none (by rw [endsOf_length]; omega)]
    repeat (first | refine g_op rfl ?_ | refine g_then ?_ | refine g_nil ?_ | refine g_region ?_ | refine g_seq ?_ | refine g_condF ?_ | refine g_exit ?_ | refine g_thenExit ?_ | refine g_exitHere ?_ | refine g_ret ?_)
    refine g_ret1 rfl fun w hw => ⟨pv, rfl, ?_, trivial⟩
    rw [← hfin]
    exact hw.sub (List.Sublist.cons _ (List.Sublist.cons_cons _ (List.Sublist.cons _ (List.Sublist.refl _))))
  clear hclosed
  repeat (first | refine g_op rfl ?_ | refine g_then ?_ | refine g_nil ?_ | refine g_region ?_ | refine g_seq ?_ | refine g_opS rfl ?_ | refine g_block ?_ | refine g_skip ?_ | refine g_condT ?_)
  refine g_loop (fun (x : Nat × Bool × List Bool) => x.1 ≤ n ∧ x.2.2.length = n ∧ (∀ y, x.2.2[y]? = some true → CanEnd bl wo y) ∧ (x.2.1 = false → x.2.2 = out ∧ ∀ y, y < x.1 → (y : Int) ≠ wo → (kindOf bl y = 1 ∨ ∃ t, Edge bl y t ∧ out[t]? = some true) → out[y]? = some true) ∧ (x.2.1 = true → unseen x.2.2 < unseen out))
    (fun x => [(18, .int .i64 x.1), (16, .slice ba n bc), (17, .int .i64 n), (6, .bool x.2.1), (5, .pointer (some ⟨p5, 0, none⟩)), (2, .pointer (some ⟨p2, 0, none⟩)), (1, .int .i64 wo)])
    (fun x => [Ent.box p5 [.slice (some ⟨pv, 0, none⟩) n n] 38, Ent.vec (some ⟨pv, 0, none⟩) n n 4 1 (x.2.2.map .bool), Ent.box p2 [nm, pa, re, .slice ba n bc] 35])
    (fun x => n - x.1) (0, false, out) ⟨Nat.zero_le _, hol, hsound, fun _ => ⟨rfl, by simp⟩, by simp⟩ (g_done (by repeat (first | exact trivial | refine ⟨rfl, ?_⟩)) (List.Sublist.refl _)) fun x ⟨hi, hol', hsound', hno, hyes⟩ => ?_
  obtain ⟨i, more', out'⟩ := x
  simp only at hi hol' hsound' hno hyes ⊢
  repeat (first | refine g_op rfl ?_ | refine g_then ?_ | refine g_nil ?_ | refine g_region ?_ | refine g_seq ?_)
  refine g_cond (fun h1 => ?_) (fun h1 => ?_)
  · have hlt : i < n := by simpa using h1
    obtain ⟨B, hB⟩ := get_lt hn hlt
    have had : AddrIs ba bb bo' := ⟨hba (ne_of_get hB)⟩
    have hli : LtIs i n := ⟨hlt⟩
    obtain ⟨cs, hcs, pv', lv, tv, rfl, _, _, hphis, hlist, ht⟩ := hel i B hB
    obtain ⟨pa', pn, pc, _, _, rfl, _⟩ := hphis
    obtain ⟨la, ln, lc, _, _, rfl, _⟩ := hlist
    have ht0 := ht
    obtain ⟨ta, tn, tc, tb, to', rfl, htn, htnc, htnb, htc, hta, htel⟩ := ht
    have hci : CellsIs w0 bb (bo' + i * 6) _ := ⟨hcs⟩
    have hBok := hok B (List.mem_of_getElem? hB)
    have hkind : kindOf bl i = B.kind := by simp [kindOf, hB]
    obtain ⟨ov, hov⟩ : ∃ ov, out'[i]? = some ov := ⟨_, List.getElem?_eq_getElem (by omega)⟩
    have hea : ElAt out' i ov := ⟨hov⟩
    repeat (first | refine g_op rfl ?_ | refine g_then ?_ | refine g_nil ?_ | refine g_region ?_ | refine g_seq ?_ | refine g_alloc rfl fun _ _ => ?_ | refine g_storeAgg ?_ | refine g_block ?_ | refine g_skip ?_)
    generalize hk1 : decide (B.kind = 1) = k1
    refine g_joinTo 33 (.bool (k1 || B.to.any fun t => out'[t.toNat]?.getD false)) ?_ ?_
    · cases k1
      · repeat (first | refine g_op rfl ?_ | refine g_open ?_)
        refine g_callV rfl (fun w hw => containsFI_c (f := 118) [.pointer (some ⟨p5, 0, none⟩)] (fun t => out'[t.toNat]?.getD false) _ B.to w (ht0.keep keeps_int hw.chg) fun w1 hw1 t ht => ?_) ?_
        · have htt := hBok.2 t ht
          exact endsOne_c p5 n _ out' t t.toNat (by omega) (by omega) w1 ((hw.boxCells p5).keep hw1) ((bools_sl hw (k := 2) rfl hol'.symm (by omega)).keep keeps_bool hw1)
        repeat (first | refine g_op rfl ?_ | refine g_then ?_ | refine g_nil ?_)
        exact g_done (by repeat (first | exact trivial | refine ⟨rfl, ?_⟩)) (List.Sublist.refl _)
      · repeat (first | refine g_op rfl ?_ | refine g_then ?_ | refine g_nil ?_ | refine g_pass rfl ?_)
        exact g_done (by repeat (first | exact trivial | refine ⟨rfl, ?_⟩)) (List.Sublist.refl _)
    have hon : (k1 || B.to.any fun t => out'[t.toNat]?.getD false) = true ↔ (kindOf bl i = 1 ∨ ∃ t, Edge bl i t ∧ out'[t]? = some true) := by
      subst hk1
      simp only [Bool.or_eq_true, decide_eq_true_eq, List.any_eq_true, hkind]
      constructor
      · rintro (h | ⟨t, ht, ho⟩)
        · exact .inl h
        · refine .inr ⟨t.toNat, ?_, ?_⟩
          · unfold Edge
            rw [toOf_get hB]
            have := hBok.2 t ht
            rw [show ((t.toNat : Nat) : Int) = t by omega]
            exact ht
          · cases hq : out'[t.toNat]? with
            | none => rw [hq] at ho; simp at ho
            | some q => rw [hq] at ho; simp at ho; rw [ho]
      · rintro (h | ⟨t, he, ho⟩)
        · exact .inl h
        · unfold Edge at he
          rw [toOf_get hB] at he
          exact .inr ⟨(t : Int), he, by simp [ho]⟩
    generalize (k1 || B.to.any fun t => out'[t.toNat]?.getD false) = o at hon
    have stay : (o = true → (i : Int) ≠ wo → ov = true) → (i + 1 ≤ n ∧ out'.length = n ∧ (∀ y, out'[y]? = some true → CanEnd bl wo y) ∧ (more' = false → out' = out ∧ ∀ y, y < i + 1 → (y : Int) ≠ wo → (kindOf bl y = 1 ∨ ∃ t, Edge bl y t ∧ out[t]? = some true) → out[y]? = some true) ∧ (more' = true → unseen out' < unseen out)) := by
      intro hs
      refine ⟨hlt, hol', hsound', fun hm => ?_, hyes⟩
      obtain ⟨e, hall⟩ := hno hm
      refine ⟨e, fun y hy hw hc => ?_⟩
      by_cases hyi : y = i
      · subst hyi
        have := hs (hon.2 (by rw [e]; exact hc)) hw
        rw [← e, hov, this]
      · exact hall y (by omega) hw hc
    cases o
    · repeat (first | refine g_op rfl ?_ | refine g_then ?_ | refine g_nil ?_ | refine g_region ?_ | refine g_seq ?_ | refine g_opS rfl ?_ | refine g_pass rfl ?_ | refine g_inBlock ?_ | refine g_skip ?_ | refine g_condF ?_ | refine g_add rfl (by omega) (by omega) ?_)
      exact g_next (i + 1, more', out') (stay (by simp)) (by simp only; omega) (by repeat (first | exact trivial | refine ⟨rfl, ?_⟩)) (List.Sublist.cons _ (List.Sublist.refl _))
    repeat (first | refine g_op rfl ?_ | refine g_then ?_ | refine g_nil ?_ | refine g_region ?_ | refine g_seq ?_ | refine g_open ?_)
    generalize hnw : (!decide ((i : Int) = wo)) = nw
    cases nw
    · have hw : (i : Int) = wo := by simpa using hnw
      repeat (first | refine g_op rfl ?_ | refine g_then ?_ | refine g_nil ?_ | refine g_region ?_ | refine g_opS rfl ?_ | refine g_pass rfl ?_ | refine g_inBlock ?_ | refine g_skip ?_ | refine g_condF ?_ | refine g_add rfl (by omega) (by omega) ?_)
      exact g_next (i + 1, more', out') (stay fun _ h => absurd hw h) (by simp only; omega) (by repeat (first | exact trivial | refine ⟨rfl, ?_⟩)) (List.Sublist.cons _ (List.Sublist.refl _))
    have hw : (i : Int) ≠ wo := by simpa using hnw
    cases ov
    · have hce : CanEnd bl wo i := by
        rcases hon.1 rfl with h | ⟨t, he, ho⟩
        · exact canEnd_kind hw h
        · exact canEnd_step hw he (hsound' t ho)
      repeat (first | refine g_op rfl ?_ | refine g_then ?_ | refine g_nil ?_ | refine g_region ?_ | refine g_opS rfl ?_ | refine g_open ?_ | refine g_inBlock ?_ | refine g_condT ?_ | refine g_add rfl (by omega) (by omega) ?_ | refine g_storeV ?_)
      have hus := unseen_set hov
      refine g_next (i + 1, true, out'.set i true) ⟨hlt, by simpa using hol', fun y hy => ?_, by simp, fun _ => ?_⟩ (by simp only; omega) (by repeat (first | exact trivial | refine ⟨rfl, ?_⟩)) (List.Sublist.cons _ (List.Sublist.refl _))
      · simp only [List.getElem?_set] at hy
        by_cases hyi : i = y
        · subst hyi; exact hce
        · rw [if_neg hyi] at hy
          exact hsound' y hy
      · cases hm : more'
        · have := (hno hm).1
          subst this
          simp only; omega
        · have := hyes hm
          simp only; omega
    · repeat (first | refine g_op rfl ?_ | refine g_then ?_ | refine g_nil ?_ | refine g_region ?_ | refine g_opS rfl ?_ | refine g_open ?_ | refine g_inBlock ?_ | refine g_skip ?_ | refine g_condF ?_ | refine g_add rfl (by omega) (by omega) ?_)
      exact g_next (i + 1, more', out') (stay fun _ _ => rfl) (by simp only; omega) (by repeat (first | exact trivial | refine ⟨rfl, ?_⟩)) (List.Sublist.cons _ (List.Sublist.refl _))
  · have hge : i = n := by have := h1; simp at this; omega
    repeat (first | refine g_then ?_ | refine g_inBlock ?_ | refine g_exit ?_ | refine g_thenExit ?_ | refine g_exitHere ?_)
    refine g_next (more', out') ⟨hol', hsound', fun hm y hy hw hc => ?_⟩ ?_ (by repeat (first | exact trivial | refine ⟨rfl, ?_⟩)) (List.Sublist.refl _)
    · obtain ⟨e, hall⟩ := hno hm
      simp only at e hc ⊢
      rw [e] at hc ⊢
      exact hall y (by omega) hw hc
    · cases hm : more'
      · have := (hno hm).1
        subst this
        simp
      · have := hyes hm
        simp only
        simp; omega
end Go.Proofs.YtebajiafdkokjaaDoor
