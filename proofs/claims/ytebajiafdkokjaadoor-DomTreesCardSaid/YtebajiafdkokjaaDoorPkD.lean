/- Texts joined: Check Ask Parts SureA Visit Held SureB DrawE ReachG SureC HangA. -/
import Derived.OrdersHeld
import Derived.Test.YtebajiafdkokjaaDoorPkC
/- turnerymeans.Heavy and code.Check: what each returns. -/
namespace Go.Proofs.YtebajiafdkokjaaDoor
open Go Go.RowKit
attribute [local irreducible] wpListIn Code.wpIn Exit.then Exit.inBlock bodyPost wpQuiet wpAnyIn
set_option maxHeartbeats 2000000

def light (u : LUnit) : Prop := u.funcs.length ≤ 10 ∧ ∀ f ∈ u.funcs, lightF f
theorem indexFF_c (v : Value) (l : List LFunc) (w0 : World) (hv : SlAt w0 v 4 l FuncV) :
    RetV Tryd.prog 62 [v, .func (.func 63) #[] #[]] w0 (.int .i64 (mainAt l)) := by
  obtain ⟨a, n, c, b, o, rfl, hn, hnc, hnb, hc, ha, hel⟩ := hv
  have one : ∀ (w : World) (x : LFunc) (v : Value), RetV Tryd.prog 63 [.agg #[.string x.name, .int .i64 x.params, .int .i64 x.regs, v]] w (.bool (isMain x)) := by
    intro w x v
    refine ret_enter Tryd.func63 rfl Tryd.ntmps63 rfl (Wd.nil NoS w) ?_
    repeat (first | refine g_op rfl ?_ | refine g_then ?_ | refine g_nil ?_ | refine g_region ?_ | refine g_seq ?_ | refine g_opS rfl ?_ | refine g_box rfl fun _ _ => ?_ | refine g_ret ?_)
    exact g_retV rfl rfl
  refine ret_enter Tryd.func62 rfl Tryd.ntmps62 rfl (Wd.nil NoS w0) ?_
  repeat (first | refine g_op rfl ?_ | refine g_then ?_ | refine g_nil ?_ | refine g_region ?_ | refine g_seq ?_ | refine g_block ?_)
  refine g_loop (fun (i : Nat) => i ≤ n ∧ ∀ j t, j < i → l[j]? = some t → isMain t = false) (fun i => [(8, .int .i64 i), (0, .slice a n c), (1, .func (.func 63) #[] #[]), (7, .int .i64 n)]) (fun _ => []) (fun i => n - i) 0 ⟨Nat.zero_le _, by simp⟩ (g_done (by repeat (first | exact trivial | refine ⟨rfl, ?_⟩)) (by simp)) fun i ⟨hi, hall⟩ => ?_
  repeat (first | refine g_op rfl ?_ | refine g_then ?_ | refine g_nil ?_ | refine g_region ?_ | refine g_seq ?_)
  refine g_cond (fun h1 => ?_) (fun h1 => ?_)
  · have hlt : i < n := by simpa using h1
    obtain ⟨x, hx⟩ := get_lt hn hlt
    have had : AddrIs a b o := ⟨ha (ne_of_get hx)⟩
    have hli : LtIs i n := ⟨hlt⟩
    obtain ⟨cs, hcs, bv, rfl, _⟩ := hel i x hx
    have hci : CellsIs w0 b (o + i * 4) _ := ⟨hcs⟩
    repeat (first | refine g_op rfl ?_ | refine g_then ?_ | refine g_nil ?_ | refine g_region ?_ | refine g_seq ?_ | refine g_block ?_ | refine g_skip ?_)
    refine g_callFV rfl (us := []) (vs := [.agg #[.string x.name, .int .i64 x.params, .int .i64 x.regs, bv]]) (xs := []) (fun w _ => one w x bv) ?_
    repeat (first | refine g_then ?_ | refine g_nil ?_)
    refine g_cond (fun h2 => ?_) (fun h2 => ?_)
    · repeat (first | refine g_op rfl ?_ | refine g_then ?_ | refine g_nil ?_ | refine g_region ?_ | refine g_seq ?_ | refine g_ret ?_ | refine g_thenRet ?_ | refine g_blockRet ?_)
      refine g_retV rfl ?_
      have : l.findIdx? isMain = some i := by
        rw [List.findIdx?_eq_some_iff_getElem]
        have hil : i < l.length := by omega
        have hxi : l[i] = x := (List.getElem?_eq_some_iff.1 hx).2
        exact ⟨hil, by rw [hxi]; exact h2, fun j hj => by have := hall j l[j] hj (List.getElem?_eq_getElem (by omega)); simp [this]⟩
      simp [mainAt, this]
    · repeat (first | refine g_then ?_ | refine g_nil ?_ | refine g_region ?_ | refine g_opS rfl ?_ | refine g_inBlock ?_ | refine g_skip ?_ | refine g_add rfl (by omega) (by omega) ?_)
      refine g_next (i + 1) ⟨hlt, fun j t hj ht => ?_⟩ (by omega) (by repeat (first | exact trivial | refine ⟨rfl, ?_⟩)) (by simp)
      by_cases hji : j = i
      · subst hji
        rw [hx] at ht
        simp only [Option.some.injEq] at ht
        subst ht; exact h2
      · exact hall j t (by omega) ht
  · have hge : i = n := by have := h1; simp at this; omega
    repeat (first | refine g_op rfl ?_ | refine g_then ?_ | refine g_nil ?_ | refine g_region ?_ | refine g_seq ?_ | refine g_exit ?_ | refine g_thenExit ?_ | refine g_exitHere ?_ | refine g_ret ?_)
    refine g_retV rfl ?_
    have : l.findIdx? isMain = none := by
      rw [List.findIdx?_eq_none_iff]
      intro t ht
      obtain ⟨j, hj⟩ := List.getElem?_of_mem ht
      exact hall j t (by have := (List.getElem?_eq_some_iff.1 hj).1; omega) hj
    simp [mainAt, this]

theorem names_sl {S : Nat → Prop} {w0 w : World} {H : List Ent} {k c n e : Nat} {a : Option Addr} {l : List ByteArray} (h : Wd S w0 H w) (hk : H[k]? = some (Ent.vec a n c e 1 (l.map .string))) (hn : n = l.length) (hb : n ≤ 1000) : SlAt w (.slice a n c) 1 l StrV := by
  refine h.slAt hk hn (by omega) fun i x hx => ⟨[.string x], fun j v hj => ?_, rfl⟩
  match j, hj with
  | 0, hj => simpa [hx] using hj
theorem totTo_succ {l : List LGlobal} {i : Nat} {x : LGlobal} (h : l[i]? = some x) : totTo l (i + 1) = totTo l i + x.size := by
  simp [totTo, List.take_add_one, h, List.sum_append]
theorem check_c (u : LUnit) (hl : light u) (g fs : Value) (w0 : World) (hg : SlAt w0 g 3 u.globals GlobalV) (hf : SlAt w0 fs 4 u.funcs FuncV) (hways : CellsAt w0 0 0 waysC) :
    RetV Tryd.prog 30 [.agg #[g, fs]] w0 (.agg #[.int .i64 (checkL u).1, .int .i64 (checkL u).2]) := by
  have hg0 := hg
  have hf0 := hf
  obtain ⟨ga, gn, gc, gb, go, rfl, hgn, hgnc, hgnb, hgc, hga, hgel⟩ := hg
  obtain ⟨fa, fn, fc, fb, fo, rfl, hfn, hfnc, hfnb, hfc, hfa, hfel⟩ := hf
  have hl10 := hl.1
  refine ret_enter Tryd.func30 rfl Tryd.ntmps30 rfl (Wd.nil NoS w0) ?_
  repeat (first | refine g_op rfl ?_ | refine g_then ?_ | refine g_nil ?_ | refine g_region ?_ | refine g_seq ?_ | refine g_box rfl fun _ _ => ?_ | refine g_alloc rfl fun _ _ => ?_)
  rename_i p1 _ p2 _
  generalize hb1 : decide (10 < (gn : Int)) = b1
  refine g_joinTo 26 (.bool (b1 || decide (10 < (fn : Int)))) ?_ ?_
  · cases b1
    · repeat (first | refine g_op rfl ?_ | refine g_then ?_ | refine g_nil ?_ | refine g_open ?_)
      exact g_done (by repeat (first | exact trivial | refine ⟨rfl, ?_⟩)) (by simp)
    · repeat (first | refine g_op rfl ?_ | refine g_then ?_ | refine g_nil ?_ | refine g_pass rfl ?_)
      exact g_done (by repeat (first | exact trivial | refine ⟨rfl, ?_⟩)) (by simp)
  repeat (first | refine g_then ?_ | refine g_nil ?_)
  refine g_cond (fun h1 => ?_) (fun h1 => ?_)
  · repeat (first | refine g_region ?_ | refine g_seq ?_)
    refine g_callV rfl (fun w _ => fault_c _ _ w) ?_
    repeat (first | refine g_then ?_ | refine g_nil ?_ | refine g_storeAgg ?_ | refine g_ret ?_ | refine g_thenRet ?_)
    refine g_retC rfl fun _ hw => ⟨?_, hw.chg⟩
    have : 10 < (u.globals.length : Int) ∨ 10 < (u.funcs.length : Int) := by subst hb1; rw [← hgn, ← hfn]; simpa using h1
    simp only [checkL, if_pos this]
  have h1' : ¬ (10 < (u.globals.length : Int) ∨ 10 < (u.funcs.length : Int)) := by subst hb1; rw [← hgn, ← hfn]; simpa using h1
  have hgl : gn ≤ 10 := by omega
  repeat (first | refine g_op rfl ?_ | refine g_then ?_ | refine g_nil ?_ | refine g_region ?_ | refine g_seq ?_ | refine g_block ?_ | refine g_skip ?_)
  refine g_nilVec 9 1 ?_
  refine g_loop (fun (x : Nat × Option Addr × Nat) => x.1 ≤ gn ∧ (0 ≤ totTo u.globals x.1 ∧ totTo u.globals x.1 ≤ 200) ∧ ∀ j, j < x.1 → globAt u.globals j = 0) (fun x => [(31, .int .i64 x.1), (29, .slice ga gn gc), (30, .int .i64 gn), (3, .slice x.2.1 x.1 x.2.2), (4, .int .i64 (totTo u.globals x.1)), (1, .pointer (some ⟨p1, 0, none⟩)), (2, .pointer (some ⟨p2, 0, none⟩))])
    (fun x => [Ent.vec x.2.1 x.1 x.2.2 9 1 (((u.globals.take x.1).map (·.name)).map .string), Ent.box p2 [.int .i64 0, .int .i64 0] 29, Ent.box p1 [.slice ga gn gc, .slice fa fn fc] 25]) (fun x => gn - x.1) (0, none, 0) ⟨Nat.zero_le _, by simp [totTo], by simp⟩ (g_done (by repeat (first | exact trivial | refine ⟨rfl, ?_⟩)) (by simp)) fun x ⟨hi, htot, hall⟩ => ?_
  obtain ⟨i, na, nc⟩ := x
  simp only at hi htot hall ⊢
  repeat (first | refine g_op rfl ?_ | refine g_then ?_ | refine g_nil ?_ | refine g_region ?_ | refine g_seq ?_)
  refine g_cond (fun h2 => ?_) (fun h2 => ?_)
  · have hlt : i < gn := by simpa using h2
    obtain ⟨X, hX⟩ := get_lt hgn hlt
    have had : AddrIs ga gb go := ⟨hga (ne_of_get hX)⟩
    have hli : LtIs i gn := ⟨hlt⟩
    obtain ⟨cs, hcs, iv, rfl, hxs, hiv⟩ := hgel i X hX
    obtain ⟨ia, inn, ic, _, _, rfl, hin, _, hinb, _⟩ := hiv
    have hci : CellsIs w0 gb (go + i * 3) _ := ⟨hcs⟩
    have hat : globAt u.globals i = globErr ((u.globals.take i).map (·.name)) (totTo u.globals i) X := by simp [globAt, at0, hX]
    have hnl : i = ((u.globals.take i).map (·.name)).length := by rw [List.length_map, List.length_take]; omega
    have hts := totTo_succ hX
    repeat (first | refine g_then ?_ | refine g_seq ?_ | refine g_skip ?_)
    refine g_block ?_
    repeat (first | refine g_op rfl ?_ | refine g_then ?_ | refine g_nil ?_ | refine g_region ?_ | refine g_seq ?_ | refine g_alloc rfl fun _ _ => ?_ | refine g_storeAgg ?_)
    rename_i p6 _
    refine g_mid [(7, .int .i64 (globAt u.globals i)), (5, .int .i64 i), (6, .pointer (some ⟨p6, 0, none⟩)), (31, .int .i64 i), (29, .slice ga gn gc), (30, .int .i64 gn), (3, .slice na i nc), (4, .int .i64 (totTo u.globals i)), (1, .pointer (some ⟨p1, 0, none⟩)), (2, .pointer (some ⟨p2, 0, none⟩))]
      [Ent.box p6 [.string X.name, .int .i64 X.size, .slice ia inn ic] 82, Ent.vec na i nc 9 1 (((u.globals.take i).map (·.name)).map .string), Ent.box p2 [.int .i64 0, .int .i64 0] 29, Ent.box p1 [.slice ga gn gc, .slice fa fn fc] 25] ?_ ?_
    · rw [hat]
      repeat (first | refine g_op rfl ?_ | refine g_region ?_ | refine g_seq ?_ | refine g_block ?_)
      refine g_callV rfl (fun w _ => name_c _ w) ?_
      repeat (first | refine g_op rfl ?_ | refine g_then ?_ | refine g_nil ?_)
      refine g_cond (fun k1 => ?_) (fun k1 => ?_)
      · rw [show globErr ((u.globals.take i).map (·.name)) (totTo u.globals i) X = 12 by simp only [globErr, k1]; rfl]
        repeat (first | refine g_then ?_ | refine g_nil ?_ | refine g_region ?_ | refine g_opS rfl ?_ | refine g_inBlock ?_)
        exact g_done (by repeat (first | exact trivial | refine ⟨rfl, ?_⟩)) (List.Sublist.refl _)
      repeat (first | refine g_op rfl ?_ | refine g_region ?_ | refine g_seq ?_)
      refine g_callV rfl (fun w hw => containsS_c _ ((u.globals.take i).map (·.name)) _ w (names_sl hw (k := 1) rfl hnl (by omega))) ?_
      repeat (first | refine g_op rfl ?_ | refine g_then ?_ | refine g_nil ?_)
      refine g_cond (fun k2 => ?_) (fun k2 => ?_)
      · rw [show globErr ((u.globals.take i).map (·.name)) (totTo u.globals i) X = 7 by simp only [globErr, k1, k2]; rfl]
        repeat (first | refine g_then ?_ | refine g_nil ?_ | refine g_region ?_ | refine g_opS rfl ?_ | refine g_inBlock ?_)
        exact g_done (by repeat (first | exact trivial | refine ⟨rfl, ?_⟩)) (List.Sublist.refl _)
      repeat (first | refine g_op rfl ?_ | refine g_region ?_ | refine g_seq ?_)
      refine g_callV rfl (fun w _ => within_c _ _ _ w) ?_
      repeat (first | refine g_op rfl ?_ | refine g_then ?_ | refine g_nil ?_)
      refine g_cond (fun k3 => ?_) (fun k3 => ?_)
      · rw [show globErr ((u.globals.take i).map (·.name)) (totTo u.globals i) X = 3 by simp only [globErr, k1, k2, k3]; rfl]
        repeat (first | refine g_then ?_ | refine g_nil ?_ | refine g_region ?_ | refine g_opS rfl ?_ | refine g_inBlock ?_)
        exact g_done (by repeat (first | exact trivial | refine ⟨rfl, ?_⟩)) (List.Sublist.refl _)
      have hsz : 1 ≤ X.size ∧ X.size ≤ 200 := by simpa [within] using k3
      repeat (first | refine g_op rfl ?_ | refine g_then ?_ | refine g_nil ?_ | refine g_region ?_ | refine g_seq ?_)
      refine g_cond (fun k4 => ?_) (fun k4 => ?_)
      · rw [show globErr ((u.globals.take i).map (·.name)) (totTo u.globals i) X = 9 by simp only [globErr, k1, k2, k3]; rw [← hin]; simp only [decide_eq_true_eq] at k4; rw [if_pos k4]; rfl]
        repeat (first | refine g_then ?_ | refine g_nil ?_ | refine g_region ?_ | refine g_opS rfl ?_ | refine g_inBlock ?_)
        exact g_done (by repeat (first | exact trivial | refine ⟨rfl, ?_⟩)) (List.Sublist.refl _)
      simp only [decide_eq_false_iff_not] at k4
      repeat (first | refine g_op rfl ?_ | refine g_then ?_ | refine g_nil ?_ | refine g_region ?_ | refine g_seq ?_ | refine g_add rfl (by omega) (by omega) ?_)
      refine g_cond (fun k5 => ?_) (fun k5 => ?_)
      · rw [show globErr ((u.globals.take i).map (·.name)) (totTo u.globals i) X = 10 by simp only [globErr, k1, k2, k3]; rw [← hin]; simp only [decide_eq_true_eq] at k5; rw [if_neg k4, if_pos k5]; rfl]
        repeat (first | refine g_then ?_ | refine g_nil ?_ | refine g_region ?_ | refine g_opS rfl ?_ | refine g_inBlock ?_)
        exact g_done (by repeat (first | exact trivial | refine ⟨rfl, ?_⟩)) (List.Sublist.refl _)
      · rw [show globErr ((u.globals.take i).map (·.name)) (totTo u.globals i) X = 0 by simp only [globErr, k1, k2, k3]; rw [← hin]; simp only [decide_eq_false_iff_not] at k5; rw [if_neg k4, if_neg k5]; rfl]
        repeat (first | refine g_then ?_ | refine g_inBlock ?_ | refine g_skip ?_)
        exact g_done (by repeat (first | exact trivial | refine ⟨rfl, ?_⟩)) (List.Sublist.refl _)
    repeat (first | refine g_op rfl ?_ | refine g_then ?_ | refine g_nil ?_ | refine g_region ?_ | refine g_seq ?_)
    refine g_cond (fun h3 => ?_) (fun h3 => ?_)
    · have h3' : globAt u.globals i ≠ 0 := by simpa using h3
      repeat (first | refine g_op rfl ?_ | refine g_region ?_ | refine g_seq ?_)
      refine g_callV rfl (fun w _ => fault_c _ _ w) ?_
      repeat (first | refine g_then ?_ | refine g_nil ?_ | refine g_storeAgg ?_ | refine g_ret ?_ | refine g_thenRet ?_ | refine g_blockRet ?_)
      refine g_retC rfl fun _ hw => ⟨?_, hw.chg⟩
      have hh := firstI_hit hall (hgn ▸ hlt) h3'
      simp only [checkL, if_neg h1', hh]
      rw [if_pos h3']
    have h3' : globAt u.globals i = 0 := by simpa using h3
    have hok : (1 ≤ X.size ∧ X.size ≤ 200) ∧ totTo u.globals i + X.size ≤ 200 := by
      rw [hat] at h3'
      unfold globErr at h3'
      by_cases q1 : nameOk X.name = true <;> simp only [q1, Bool.not_true, Bool.not_false] at h3'
      · by_cases q2 : hasName ((u.globals.take i).map (·.name)) X.name = true <;> simp only [q2] at h3'
        · cases h3'
        · by_cases q3 : within X.size 1 200 = true <;> simp only [q3, Bool.not_true, Bool.not_false] at h3'
          · have hsz : 1 ≤ X.size ∧ X.size ≤ 200 := by simpa [within] using q3
            refine ⟨hsz, ?_⟩
            by_cases q4 : X.size < (X.init.length : Int)
            · simp only [q4] at h3'; cases h3'
            · by_cases q5 : 200 < totTo u.globals i + X.size
              · simp only [q4, q5] at h3'; cases h3'
              · omega
          · cases h3'
      · cases h3'
    obtain ⟨hsz, htt⟩ := hok
    repeat (first | refine g_op rfl ?_ | refine g_then ?_ | refine g_region ?_ | refine g_seq ?_ | refine g_skip ?_ | refine g_build1 rfl rfl fun _ _ => ?_)
    refine g_append rfl rfl (by omega) (by omega) fun a' c' => ?_
    rw [show ((u.globals.take i).map (·.name)).map Value.string ++ [.string X.name] = ((u.globals.take (i + 1)).map (·.name)).map Value.string by simp [List.take_add_one, hX]]
    repeat (first | refine g_op rfl ?_ | refine g_then ?_ | refine g_nil ?_ | refine g_region ?_ | refine g_opS rfl ?_ | refine g_inBlock ?_ | refine g_add rfl (by omega) (by omega) ?_)
    refine g_next (i + 1, a', c') ⟨hlt, by simp only [hts]; omega, fun j hj => ?_⟩ (by simp only; omega) ?_ ?_
    · by_cases hji : j = i
      · subst hji; exact h3'
      · exact hall j (by simp only at hj; omega)
    · rw [hts]
      exact (by repeat (first | exact trivial | refine ⟨rfl, ?_⟩))
    · exact List.Sublist.cons _ (List.Sublist.cons _ (List.Sublist.refl _))
  have hge : i = gn := by have := h2; simp at this; omega
  have hgz : (firstI (globAt u.globals) u.globals.length) = (0, 0) := firstI_none (by rw [← hgn, ← hge]; exact hall)
  have htk : (u.globals.take i).map (·.name) = u.globals.map (·.name) := by rw [hge, hgn, List.take_length]
  rw [htk]
  subst hge
  repeat (first | refine g_op rfl ?_ | refine g_then ?_ | refine g_nil ?_ | refine g_region ?_ | refine g_seq ?_ | refine g_block ?_ | refine g_exit ?_ | refine g_thenExit ?_ | refine g_exitHere ?_)
  refine g_loop (fun (x : Nat × Option Addr × Nat) => x.1 ≤ fn ∧ ∀ j, j < x.1 → headAt u j = 0) (fun x => [(82, .int .i64 x.1), (80, .slice fa fn fc), (81, .int .i64 fn), (3, .slice x.2.1 (i + x.1) x.2.2), (1, .pointer (some ⟨p1, 0, none⟩)), (2, .pointer (some ⟨p2, 0, none⟩))])
    (fun x => [Ent.vec x.2.1 (i + x.1) x.2.2 9 1 ((u.globals.map (·.name) ++ (u.funcs.take x.1).map (·.name)).map .string), Ent.box p2 [.int .i64 0, .int .i64 0] 29, Ent.box p1 [.slice ga i gc, .slice fa fn fc] 25]) (fun x => fn - x.1) (0, na, nc) ⟨Nat.zero_le _, by simp⟩ (by simp only [List.take_zero, List.map_nil, List.append_nil, Nat.add_zero]; exact g_done (by repeat (first | exact trivial | refine ⟨rfl, ?_⟩)) (List.Sublist.refl _)) fun x ⟨hi2, hall2⟩ => ?_
  obtain ⟨k, ma, mc⟩ := x
  simp only at hi2 hall2 ⊢
  repeat (first | refine g_op rfl ?_ | refine g_then ?_ | refine g_nil ?_ | refine g_region ?_ | refine g_seq ?_)
  refine g_cond (fun h4 => ?_) (fun h4 => ?_)
  · have hlt : k < fn := by simpa using h4
    obtain ⟨X, hX⟩ := get_lt hfn hlt
    have had : AddrIs fa fb fo := ⟨hfa (ne_of_get hX)⟩
    have hli : LtIs k fn := ⟨hlt⟩
    obtain ⟨cs, hcs, bv, rfl, hpi, hri, hbv⟩ := hfel k X hX
    have hbv0 := hbv
    obtain ⟨ba, bn, bc, _, _, rfl, _⟩ := hbv
    have hci : CellsIs w0 fb (fo + k * 4) _ := ⟨hcs⟩
    have hlx := hl.2 X (List.mem_of_getElem? hX)
    have hat : headAt u k = headErr (u.globals.map (·.name) ++ (u.funcs.take k).map (·.name)) X := by simp [headAt, at0, hX]
    have hnl : i + k = (u.globals.map (·.name) ++ (u.funcs.take k).map (·.name)).length := by rw [List.length_append, List.length_map, List.length_map, List.length_take]; omega
    repeat (first | refine g_op rfl ?_ | refine g_then ?_ | refine g_nil ?_ | refine g_region ?_ | refine g_seq ?_ | refine g_alloc rfl fun _ _ => ?_ | refine g_storeAgg ?_ | refine g_block ?_ | refine g_skip ?_)
    refine g_callV rfl (fun w hw => head_c _ _ _ X hlx _ _ (u.globals.map (·.name) ++ (u.funcs.take k).map (·.name)) w (hbv0.keep keeps_block hw.chg) (names_sl hw (k := 2) rfl hnl (by omega))) ?_
    repeat (first | refine g_op rfl ?_ | refine g_then ?_ | refine g_nil ?_ | refine g_region ?_ | refine g_seq ?_)
    refine g_cond (fun h3 => ?_) (fun h3 => ?_)
    · have h3' : headAt u k ≠ 0 := by rw [hat]; simpa using h3
      repeat (first | refine g_op rfl ?_ | refine g_region ?_ | refine g_seq ?_)
      refine g_callV rfl (fun w _ => fault_c _ _ w) ?_
      repeat (first | refine g_then ?_ | refine g_nil ?_ | refine g_storeAgg ?_ | refine g_ret ?_ | refine g_thenRet ?_ | refine g_blockRet ?_)
      refine g_retC rfl fun _ hw => ⟨?_, hw.chg⟩
      have hh := firstI_hit hall2 (hfn ▸ hlt) h3'
      simp only [checkL, if_neg h1', hgz, hh]
      rw [if_neg (by simp), if_pos h3', hat]
    have h3' : headAt u k = 0 := by rw [hat]; simpa using h3
    repeat (first | refine g_op rfl ?_ | refine g_then ?_ | refine g_region ?_ | refine g_skip ?_ | refine g_build1 rfl rfl fun _ _ => ?_)
    refine g_append rfl rfl (by omega) (by omega) fun a' c' => ?_
    rw [show (u.globals.map (·.name) ++ (u.funcs.take k).map (·.name)).map Value.string ++ [.string X.name] = (u.globals.map (·.name) ++ (u.funcs.take (k + 1)).map (·.name)).map Value.string by simp [List.take_add_one, hX]]
    repeat (first | refine g_then ?_ | refine g_nil ?_ | refine g_region ?_ | refine g_opS rfl ?_ | refine g_inBlock ?_ | refine g_add rfl (by omega) (by omega) ?_)
    refine g_next (k + 1, a', c') ⟨hlt, fun j hj => ?_⟩ (by simp only; omega) (by repeat (first | exact trivial | refine ⟨rfl, ?_⟩)) ?_
    · by_cases hji : j = k
      · subst hji; exact h3'
      · exact hall2 j (by simp only at hj; omega)
    · exact List.Sublist.cons _ (List.Sublist.cons _ (List.Sublist.cons _ (List.Sublist.refl _)))
  have hgek : k = fn := by have := h4; simp at this; omega
  have hhz : (firstI (headAt u) u.funcs.length) = (0, 0) := firstI_none (by rw [← hfn, ← hgek]; exact hall2)
  have hregs : ∀ X ∈ u.funcs, 0 ≤ X.regs ∧ X.regs ≤ 100 := by
    intro X hX
    obtain ⟨j, hj⟩ := List.getElem?_of_mem hX
    have hjl : j < k := by rw [hgek, hfn]; exact (List.getElem?_eq_some_iff.1 hj).1
    have hz := hall2 j hjl
    simp only [headAt, at0, hj] at hz
    unfold headErr at hz
    by_cases q1 : nameOk X.name = true <;> simp only [q1, Bool.not_true, Bool.not_false] at hz
    · by_cases q2 : hasName (u.globals.map (·.name) ++ (u.funcs.take j).map (·.name)) X.name = true <;> simp only [q2] at hz
      · cases hz
      · by_cases q3 : (!within X.params 0 6 || !within X.regs X.params 100) = true
        · simp only [q3] at hz; cases hz
        · simp [within] at q3; omega
    · cases hz
  repeat (first | refine g_op rfl ?_ | refine g_then ?_ | refine g_nil ?_ | refine g_region ?_ | refine g_seq ?_ | refine g_block ?_ | refine g_exit ?_ | refine g_thenExit ?_ | refine g_exitHere ?_)
  refine g_loop (fun (j : Nat) => j ≤ fn ∧ ∀ q, q < j → at0 u.funcs (bodyErr u.funcs) q = 0) (fun j => [(107, .int .i64 j), (105, .slice fa fn fc), (106, .int .i64 fn), (1, .pointer (some ⟨p1, 0, none⟩)), (2, .pointer (some ⟨p2, 0, none⟩))])
    (fun _ => [Ent.box p2 [.int .i64 0, .int .i64 0] 29, Ent.box p1 [.slice ga i gc, .slice fa fn fc] 25]) (fun j => fn - j) 0 ⟨Nat.zero_le _, by simp⟩ (g_done (by repeat (first | exact trivial | refine ⟨rfl, ?_⟩)) (List.Sublist.cons _ (List.Sublist.refl _))) fun j ⟨hj, hall3⟩ => ?_
  repeat (first | refine g_op rfl ?_ | refine g_then ?_ | refine g_nil ?_ | refine g_region ?_ | refine g_seq ?_)
  refine g_cond (fun h5 => ?_) (fun h5 => ?_)
  · have hlt : j < fn := by simpa using h5
    obtain ⟨X, hX⟩ := get_lt hfn hlt
    have had : AddrIs fa fb fo := ⟨hfa (ne_of_get hX)⟩
    have hli : LtIs j fn := ⟨hlt⟩
    obtain ⟨cs, hcs, bv, rfl, hpi, hri, hbv⟩ := hfel j X hX
    have hbv0 := hbv
    obtain ⟨ba, bn, bc, _, _, rfl, _⟩ := hbv
    have hci : CellsIs w0 fb (fo + j * 4) _ := ⟨hcs⟩
    have hXm := List.mem_of_getElem? hX
    have hat : at0 u.funcs (bodyErr u.funcs) j = bodyErr u.funcs X := by simp [at0, hX]
    repeat (first | refine g_op rfl ?_ | refine g_then ?_ | refine g_nil ?_ | refine g_region ?_ | refine g_seq ?_ | refine g_alloc rfl fun _ _ => ?_ | refine g_storeAgg ?_ | refine g_block ?_ | refine g_skip ?_)
    refine g_callV rfl (fun w hw => body_c _ _ _ u.funcs (by omega) X (hl.2 X hXm) (hregs X hXm) _ w (hf0.keep keeps_func hw.chg) (hbv0.keep keeps_block hw.chg) (hways.keep hw.chg) rfl) ?_
    repeat (first | refine g_op rfl ?_ | refine g_then ?_ | refine g_nil ?_ | refine g_region ?_ | refine g_seq ?_)
    refine g_cond (fun h3 => ?_) (fun h3 => ?_)
    · have h3' : at0 u.funcs (bodyErr u.funcs) j ≠ 0 := by rw [hat]; simpa using h3
      repeat (first | refine g_op rfl ?_ | refine g_region ?_ | refine g_seq ?_)
      refine g_callV rfl (fun w _ => fault_c _ _ w) ?_
      repeat (first | refine g_then ?_ | refine g_nil ?_ | refine g_storeAgg ?_ | refine g_ret ?_ | refine g_thenRet ?_ | refine g_blockRet ?_)
      refine g_retC rfl fun _ hw => ⟨?_, hw.chg⟩
      have hh := firstI_hit hall3 (hfn ▸ hlt) h3'
      simp only [checkL, if_neg h1', hgz, hhz, hh]
      rw [if_neg (by simp), if_neg (by simp), if_pos h3', hat]
    · have h3' : at0 u.funcs (bodyErr u.funcs) j = 0 := by rw [hat]; simpa using h3
      repeat (first | refine g_then ?_ | refine g_nil ?_ | refine g_region ?_ | refine g_opS rfl ?_ | refine g_inBlock ?_ | refine g_skip ?_ | refine g_add rfl (by omega) (by omega) ?_)
      refine g_next (j + 1) ⟨hlt, fun q hq => ?_⟩ (by omega) (by repeat (first | exact trivial | refine ⟨rfl, ?_⟩)) (List.Sublist.cons _ (List.Sublist.cons _ (List.Sublist.refl _)))
      by_cases hqj : q = j
      · subst hqj; exact h3'
      · exact hall3 q (by omega)
  have hgej : j = fn := by have := h5; simp at this; omega
  have hbz : (firstI (at0 u.funcs (bodyErr u.funcs)) u.funcs.length) = (0, 0) := firstI_none (by rw [← hfn, ← hgej]; exact hall3)
  have hcl : checkL u = if mainAt u.funcs < 0 then (6, 0) else if 0 < at0 u.funcs (·.params) (mainAt u.funcs).toNat then (5, mainAt u.funcs) else (0, 0) := by
    simp only [checkL, if_neg h1', hgz, hhz, hbz]
    rfl
  rw [hcl]
  repeat (first | refine g_op rfl ?_ | refine g_then ?_ | refine g_region ?_ | refine g_seq ?_ | refine g_exit ?_ | refine g_thenExit ?_ | refine g_exitHere ?_)
  refine g_callV rfl (fun w hw => indexFF_c _ u.funcs w (hf0.keep keeps_func hw.chg)) ?_
  repeat (first | refine g_op rfl ?_ | refine g_then ?_ | refine g_nil ?_ | refine g_region ?_ | refine g_seq ?_)
  refine g_cond (fun h6 => ?_) (fun h6 => ?_)
  · repeat (first | refine g_region ?_ | refine g_seq ?_)
    refine g_callV rfl (fun w _ => fault_c _ _ w) ?_
    repeat (first | refine g_then ?_ | refine g_nil ?_ | refine g_storeAgg ?_ | refine g_ret ?_ | refine g_thenRet ?_)
    refine g_retC rfl fun _ hw => ⟨?_, hw.chg⟩
    rw [if_pos (by simpa using h6)]
  have h6' : ¬ mainAt u.funcs < 0 := by simpa using h6
  rw [if_neg h6']
  obtain ⟨m, hm⟩ : ∃ m : Nat, mainAt u.funcs = m := ⟨(mainAt u.funcs).toNat, by omega⟩
  have hml : m < fn := by
    unfold mainAt at hm
    split at hm
    · rename_i q hq
      have := (List.findIdx?_eq_some_iff_getElem.1 hq).1
      omega
    · omega
  obtain ⟨X, hX⟩ := get_lt hfn hml
  have had : AddrIs fa fb fo := ⟨hfa (ne_of_get hX)⟩
  have hli : LtIs m fn := ⟨hml⟩
  have hni : NatIs (mainAt u.funcs) m := ⟨hm⟩
  obtain ⟨cs, hcs, bv, rfl, hpi, hri, hbv⟩ := hfel m X hX
  have hci : CellsIs w0 fb (fo + m * 4) _ := ⟨hcs⟩
  have hat : at0 u.funcs (·.params) (mainAt u.funcs).toNat = X.params := by rw [hm]; simp [at0, hX]
  rw [hat]
  repeat (first | refine g_op rfl ?_ | refine g_then ?_ | refine g_nil ?_ | refine g_region ?_ | refine g_seq ?_ | refine g_skip ?_)
  refine g_cond (fun h7 => ?_) (fun h7 => ?_)
  · repeat (first | refine g_op rfl ?_ | refine g_region ?_ | refine g_seq ?_)
    refine g_callV rfl (fun w _ => fault_c _ _ w) ?_
    repeat (first | refine g_then ?_ | refine g_nil ?_ | refine g_storeAgg ?_ | refine g_ret ?_ | refine g_thenRet ?_)
    refine g_retC rfl fun _ hw => ⟨?_, hw.chg⟩
    rw [if_pos (by simpa using h7)]
  · repeat (first | refine g_op rfl ?_ | refine g_then ?_ | refine g_nil ?_ | refine g_region ?_ | refine g_seq ?_ | refine g_storeAgg ?_ | refine g_skip ?_ | refine g_ret ?_)
    refine g_retC rfl fun _ hw => ⟨?_, hw.chg⟩
    rw [if_neg (by simpa using h7)]
end Go.Proofs.YtebajiafdkokjaaDoor

/- turnerymeans.Heavy, turnerylaw3.asked, graph.Func: what each returns. -/
namespace Go.Proofs.YtebajiafdkokjaaDoor
open Go Go.RowKit
attribute [local irreducible] wpListIn Code.wpIn Exit.then Exit.inBlock bodyPost wpQuiet wpAnyIn
set_option maxHeartbeats 2000000

theorem heavy_c (u : LUnit) (g fs : Value) (w0 : World) (hf : SlAt w0 fs 4 u.funcs FuncV) (hg : ∃ a n c, g = .slice a n c) :
    Ret Tryd.prog 14 [.agg #[g, fs]] w0 fun v w' => ∃ b : Bool, v = .bool b ∧ Wd NoS w0 [] w' ∧ (b = false → light u) := by
  obtain ⟨ga, gn, gc, rfl⟩ := hg
  obtain ⟨fa, fn, fc, fb, fo, rfl, hfn, hfnc, hfnb, hfc, hfa, hfel⟩ := hf
  refine ret_enter Tryd.func14 rfl Tryd.ntmps14 rfl (Wd.nil NoS w0) ?_
  repeat (first | refine g_op rfl ?_ | refine g_then ?_ | refine g_nil ?_ | refine g_region ?_ | refine g_seq ?_ | refine g_box rfl fun _ _ => ?_ | refine g_block ?_)
  rename_i p1 _
  have noWd : ∀ w H, Wd NoS w0 H w → Wd NoS w0 [] w := fun w H hw => ⟨hw.chg, by simp, by simp, by simp⟩
  refine g_loop (fun (i : Nat) => i ≤ fn ∧ ∀ k X, k < i → u.funcs[k]? = some X → lightF X) (fun i => [(3, .int .i64 i), (2, .bool false), (1, .pointer (some ⟨p1, 0, none⟩))]) (fun _ => [Ent.box p1 [.slice ga gn gc, .slice fa fn fc] 25]) (fun i => fn - i) 0 ⟨Nat.zero_le _, by simp⟩ (g_done (by repeat (first | exact trivial | refine ⟨rfl, ?_⟩)) (List.Sublist.refl _)) fun i ⟨hi, hall⟩ => ?_
  repeat (first | refine g_op rfl ?_ | refine g_then ?_ | refine g_nil ?_ | refine g_region ?_ | refine g_seq ?_)
  refine g_cond (fun h1 => ?_) (fun h1 => ?_)
  · have hlt : i < fn := by simpa using h1
    obtain ⟨X, hX⟩ := get_lt hfn hlt
    have had : AddrIs fa fb fo := ⟨hfa (ne_of_get hX)⟩
    have hli : LtIs i fn := ⟨hlt⟩
    obtain ⟨cs, hcs, bv, rfl, hpi, hri, hbv⟩ := hfel i X hX
    obtain ⟨ba, n, bc, bb, bo', rfl, hn, hnc, hnb, hbc, hba, hel⟩ := hbv
    have hci : CellsIs w0 fb (fo + i * 4) _ := ⟨hcs⟩
    repeat (first | refine g_op rfl ?_ | refine g_then ?_ | refine g_nil ?_ | refine g_region ?_ | refine g_seq ?_ | refine g_block ?_ | refine g_skip ?_)
    refine g_loop (fun (x : Nat × Int) => x.1 ≤ n ∧ (n ≤ 24 → x.2 = sizeTo X.blocks x.1 ∧ x.2 ≤ x.1 * 281474976710656)) (fun x => [(5, .int .i64 x.1), (4, .int .i64 x.2), (3, .int .i64 i), (2, .bool false), (1, .pointer (some ⟨p1, 0, none⟩))]) (fun _ => [Ent.box p1 [.slice ga gn gc, .slice fa fn fc] 25]) (fun x => n - x.1) (0, 0) ⟨Nat.zero_le _, by simp [sizeTo]⟩ (g_done (by repeat (first | exact trivial | refine ⟨rfl, ?_⟩)) (List.Sublist.refl _)) fun x ⟨hj, hsum⟩ => ?_
    obtain ⟨j, s⟩ := x
    simp only at hj hsum ⊢
    repeat (first | refine g_op rfl ?_ | refine g_then ?_ | refine g_nil ?_ | refine g_region ?_ | refine g_seq ?_)
    refine g_cond (fun h2 => ?_) (fun h2 => ?_)
    · have hjlt : j < n := by simpa using h2
      obtain ⟨B, hB⟩ := get_lt hn hjlt
      have had2 : AddrIs ba bb bo' := ⟨hba (ne_of_get hB)⟩
      have hli2 : LtIs j n := ⟨hjlt⟩
      obtain ⟨cs2, hcs2, pv, lv, tv, rfl, _, _, hphis, hlist, ht⟩ := hel j B hB
      obtain ⟨pa', pn, pc, _, _, rfl, hpn, _, hpnb, _⟩ := hphis
      obtain ⟨la, ln, lc, _, _, rfl, hln, _, hlnb, _⟩ := hlist
      have hci2 : CellsIs w0 bb (bo' + j * 6) _ := ⟨hcs2⟩
      have hs1 := sizeTo_succ hB
      have hm1 := sizeTo_mono X.blocks j
      have hkey : n ≤ 24 → IntKind.i64.wrap (IntKind.i64.wrap (s + pn) + ln) = sizeTo X.blocks (j + 1) ∧ IntKind.i64.wrap (IntKind.i64.wrap (s + pn) + ln) ≤ ((j + 1 : Nat) : Int) * 281474976710656 := by
        intro h24
        obtain ⟨e1, e2⟩ := hsum h24
        rw [wrap_in (s + pn) (by omega) (by omega), wrap_in (s + pn + ln) (by omega) (by omega), hs1]
        constructor
        · rw [e1, hpn, hln]; omega
        · omega
      repeat (first | refine g_then ?_ | refine g_seq ?_ | refine g_block ?_ | refine g_skip ?_)
      refine g_draw mixed (by kernel_rfl) ?_
      repeat (refine q_op rfl ?_)
      refine q_addW rfl ?_
      repeat (refine q_op rfl ?_)
      refine q_addW rfl ?_
      repeat (first | refine q_opS rfl ?_ | refine q_nil ?_)
      repeat (first | refine g_op rfl ?_ | refine g_then ?_ | refine g_nil ?_ | refine g_region ?_ | refine g_opS rfl ?_ | refine g_inBlock ?_ | refine g_add rfl (by omega) (by omega) ?_)
      exact g_next (j + 1, IntKind.i64.wrap (IntKind.i64.wrap (s + pn) + ln)) ⟨hjlt, hkey⟩ (by simp only; omega) (by repeat (first | exact trivial | refine ⟨rfl, ?_⟩)) (List.Sublist.refl _)
    · have hge : j = n := by have := h2; simp at this; omega
      repeat (first | refine g_op rfl ?_ | refine g_then ?_ | refine g_region ?_ | refine g_seq ?_ | refine g_exit ?_ | refine g_thenExit ?_ | refine g_exitHere ?_)
      generalize hb1 : decide (24 < (n : Int)) = b1
      refine g_joinTo 60 (.bool (b1 || decide (120 < s))) ?_ ?_
      · cases b1
        · repeat (first | refine g_op rfl ?_ | refine g_then ?_ | refine g_nil ?_ | refine g_open ?_)
          exact g_done (by repeat (first | exact trivial | refine ⟨rfl, ?_⟩)) (List.Sublist.refl _)
        · repeat (first | refine g_op rfl ?_ | refine g_then ?_ | refine g_nil ?_ | refine g_pass rfl ?_)
          exact g_done (by repeat (first | exact trivial | refine ⟨rfl, ?_⟩)) (List.Sublist.refl _)
      repeat (first | refine g_then ?_ | refine g_nil ?_)
      refine g_cond (fun h3 => ?_) (fun h3 => ?_)
      · repeat (first | refine g_then ?_ | refine g_nil ?_ | refine g_region ?_ | refine g_seq ?_ | refine g_opS rfl ?_ | refine g_ret ?_ | refine g_thenRet ?_ | refine g_blockRet ?_)
        exact g_ret1 rfl fun w hw => ⟨_, rfl, noWd _ _ hw, by simp⟩
      · have h3' : n ≤ 24 ∧ s ≤ 120 := by subst hb1; simp at h3; omega
        repeat (first | refine g_op rfl ?_ | refine g_then ?_ | refine g_nil ?_ | refine g_region ?_ | refine g_opS rfl ?_ | refine g_inBlock ?_ | refine g_skip ?_ | refine g_add rfl (by omega) (by omega) ?_)
        refine g_next (i + 1) ⟨hlt, fun k Y hk hY => ?_⟩ (by omega) (by repeat (first | exact trivial | refine ⟨rfl, ?_⟩)) (List.Sublist.refl _)
        by_cases hki : k = i
        · subst hki
          rw [hX] at hY
          simp only [Option.some.injEq] at hY
          subst hY
          refine ⟨by omega, ?_⟩
          have := (hsum h3'.1).1
          rw [hge, hn, sizeTo_all] at this
          omega
        · exact hall k Y (by omega) hY
  · have hge : i = fn := by have := h1; simp at this; omega
    repeat (first | refine g_op rfl ?_ | refine g_then ?_ | refine g_nil ?_ | refine g_region ?_ | refine g_seq ?_ | refine g_opS rfl ?_ | refine g_exit ?_ | refine g_thenExit ?_ | refine g_exitHere ?_ | refine g_ret ?_)
    refine g_ret1 rfl fun w hw => ⟨_, rfl, noWd _ _ hw, fun hb => ⟨by simp at hb; omega, fun Y hY => ?_⟩⟩
    obtain ⟨k, hk⟩ := List.getElem?_of_mem hY
    exact hall k Y (by have := (List.getElem?_eq_some_iff.1 hk).1; omega) hk

def askedL (u : LUnit) (k : Int) : Int × Int := if (checkL u).1 ≠ 0 then checkL u else if k < 0 ∨ (u.funcs.length : Int) ≤ k then (3, -1) else (0, 0)
theorem firstI_snd {f : Nat → Int} {n : Nat} (h : (firstI f n).1 = 0) : firstI f n = (0, 0) := firstI_none (firstI_zero h)
theorem checkL_zero {u : LUnit} (h : (checkL u).1 = 0) : checkL u = (0, 0) := by
  unfold checkL at h ⊢
  split
  · rename_i h1; rw [if_pos h1] at h; cases h
  · rename_i h1; rw [if_neg h1] at h
    split
    · rename_i h2; rw [if_pos h2] at h; exact absurd h h2
    · rename_i h2; rw [if_neg h2] at h
      split
      · rename_i h3; rw [if_pos h3] at h; exact absurd h h3
      · rename_i h3; rw [if_neg h3] at h
        split
        · rename_i h4; rw [if_pos h4] at h; exact absurd h h4
        · rename_i h4; rw [if_neg h4] at h
          split
          · rename_i h5; rw [if_pos h5] at h; cases h
          · rename_i h5; rw [if_neg h5] at h
            split
            · rename_i h6; rw [if_pos h6] at h; cases h
            · rfl
theorem sameFault_c (code at' : Int) (w0 : World) : RetV Tryd.prog 41 [.int .i64 code, .int .i64 at'] w0 (.agg #[.int .i64 code, .int .i64 at']) := by
  refine ret_enter Tryd.func41 rfl Tryd.ntmps41 rfl (Wd.nil NoS w0) ?_
  repeat (first | refine g_op rfl ?_ | refine g_then ?_ | refine g_nil ?_ | refine g_region ?_ | refine g_seq ?_ | refine g_alloc rfl fun _ _ => ?_ | refine g_storeAgg ?_ | refine g_ret ?_)
  exact g_retC rfl fun _ hw => ⟨rfl, hw.chg⟩
theorem asked_c (u : LUnit) (hl : light u) (k : Int) (g fs : Value) (w0 : World) (hg : SlAt w0 g 3 u.globals GlobalV) (hf : SlAt w0 fs 4 u.funcs FuncV) (hways : CellsAt w0 0 0 waysC) :
    RetV Tryd.prog 16 [.agg #[g, fs], .int .i64 k] w0 (.agg #[.int .i64 (askedL u k).1, .int .i64 (askedL u k).2]) := by
  have hg0 := hg
  have hf0 := hf
  obtain ⟨ga, gn, gc, gb, go, rfl, _⟩ := hg
  obtain ⟨fa, fn, fc, fb, fo, rfl, hfn, _⟩ := hf
  refine ret_enter Tryd.func16 rfl Tryd.ntmps16 rfl (Wd.nil NoS w0) ?_
  repeat (first | refine g_op rfl ?_ | refine g_then ?_ | refine g_nil ?_ | refine g_region ?_ | refine g_seq ?_ | refine g_box rfl fun _ _ => ?_ | refine g_alloc rfl fun _ _ => ?_)
  refine g_callV rfl (fun w hw => check_c u hl _ _ w (hg0.keep keeps_global hw.chg) (hf0.keep keeps_func hw.chg) (hways.keep hw.chg)) ?_
  repeat (first | refine g_op rfl ?_ | refine g_then ?_ | refine g_nil ?_ | refine g_region ?_ | refine g_seq ?_ | refine g_alloc rfl fun _ _ => ?_ | refine g_storeAgg ?_)
  refine g_cond (fun h1 => ?_) (fun h1 => ?_)
  · repeat (first | refine g_op rfl ?_ | refine g_then ?_ | refine g_nil ?_ | refine g_region ?_ | refine g_seq ?_ | refine g_storeAgg ?_ | refine g_ret ?_ | refine g_thenRet ?_)
    refine g_retC rfl fun _ hw => ⟨?_, hw.chg⟩
    rw [askedL, if_pos (by simpa using h1)]
  have h1' : ¬ (checkL u).1 ≠ 0 := by simpa using h1
  repeat (first | refine g_op rfl ?_ | refine g_then ?_ | refine g_region ?_ | refine g_seq ?_ | refine g_skip ?_)
  generalize hb1 : decide (k < 0) = b1
  refine g_joinTo 20 (.bool (b1 || decide ((fn : Int) ≤ k))) ?_ ?_
  · cases b1
    · repeat (first | refine g_op rfl ?_ | refine g_then ?_ | refine g_nil ?_ | refine g_open ?_)
      exact g_done (by repeat (first | exact trivial | refine ⟨rfl, ?_⟩)) (List.Sublist.refl _)
    · repeat (first | refine g_op rfl ?_ | refine g_then ?_ | refine g_nil ?_ | refine g_pass rfl ?_)
      exact g_done (by repeat (first | exact trivial | refine ⟨rfl, ?_⟩)) (List.Sublist.refl _)
  repeat (first | refine g_then ?_ | refine g_nil ?_)
  refine g_cond (fun h2 => ?_) (fun h2 => ?_)
  · repeat (first | refine g_region ?_ | refine g_seq ?_)
    refine g_callV rfl (fun w _ => sameFault_c _ _ w) ?_
    repeat (first | refine g_then ?_ | refine g_nil ?_ | refine g_storeAgg ?_ | refine g_ret ?_ | refine g_thenRet ?_)
    refine g_retC rfl fun _ hw => ⟨?_, hw.chg⟩
    rw [askedL, if_neg h1', if_pos (by subst hb1; rw [← hfn]; simpa using h2)]
  · repeat (first | refine g_op rfl ?_ | refine g_then ?_ | refine g_nil ?_ | refine g_region ?_ | refine g_seq ?_ | refine g_storeAgg ?_ | refine g_skip ?_ | refine g_ret ?_)
    refine g_retC rfl fun _ hw => ⟨?_, hw.chg⟩
    rw [askedL, if_neg h1', if_neg (by subst hb1; rw [← hfn]; simpa using h2)]

def zeroFn : Value := .agg #[.string ByteArray.empty, .int .i64 0, .int .i64 0, .slice none 0 0]
theorem func_bad (u : LUnit) (hl : light u) (k : Int) (_hk : inI k) (hbad : (askedL u k).1 ≠ 0) (g fs : Value) (w0 : World) (hg : SlAt w0 g 3 u.globals GlobalV) (hf : SlAt w0 fs 4 u.funcs FuncV) (hways : CellsAt w0 0 0 waysC) :
    RetV Tryd.prog 44 [.agg #[g, fs], .int .i64 k] w0 (.tuple #[zeroFn, .agg #[.int .i64 (askedL u k).1, .int .i64 (askedL u k).2]]) := by
  have hg0 := hg
  have hf0 := hf
  obtain ⟨ga, gn, gc, gb, go, rfl, _⟩ := hg
  obtain ⟨fa, fn, fc, fb, fo, rfl, hfn, hfnc, hfnb, _⟩ := hf
  refine ret_enter Tryd.func44 rfl Tryd.ntmps44 rfl (Wd.nil NoS w0) ?_
  repeat (first | refine g_op rfl ?_ | refine g_then ?_ | refine g_nil ?_ | refine g_region ?_ | refine g_seq ?_ | refine g_box rfl fun _ _ => ?_ | refine g_alloc rfl fun _ _ => ?_)
  rename_i p2 _ p4 _ p5 _
  refine g_callV rfl (fun w hw => check_c u hl _ _ w (hg0.keep keeps_global hw.chg) (hf0.keep keeps_func hw.chg) (hways.keep hw.chg)) ?_
  repeat (first | refine g_op rfl ?_ | refine g_then ?_ | refine g_nil ?_ | refine g_region ?_ | refine g_seq ?_ | refine g_alloc rfl fun _ _ => ?_ | refine g_storeAgg ?_)
  rename_i p6 _
  refine g_cond (fun h1 => ?_) (fun h1 => ?_)
  · have hne : (checkL u).1 ≠ 0 := by
      intro h0
      rw [checkL_zero h0] at h1
      simp at h1
    repeat (refine g_seq ?_)
    refine g_drawW [(4, .pointer (some ⟨p4, 0, none⟩)), (5, .pointer (some ⟨p5, 0, none⟩))] [Ent.box p5 [.int .i64 (checkL u).1, .int .i64 (checkL u).2] 29, Ent.box p4 [.string ByteArray.empty, .int .i64 0, .int .i64 0, .slice none 0 0] 35] mixed ?_ ?_
    · repeat' (first | refine g_any0 (by decide +kernel) ?_ | refine g_any (by decide +kernel) ?_ | refine any_nil | refine any_skip (by decide +kernel) ?_ | refine any_cons ?_ ?_ | refine g_op rfl ?_ | refine g_then ?_ | refine g_nil ?_ | refine g_storeAgg ?_)
      all_goals exact g_done (by repeat (first | exact trivial | refine ⟨rfl, ?_⟩)) (by simp)
    · repeat (first | refine g_then ?_ | refine g_ret ?_ | refine g_thenRet ?_)
      refine g_retCC rfl fun _ hw => ⟨?_, hw.chg⟩
      rw [askedL, if_pos hne]
      rfl
  have h1' : ¬ (checkL u).1 ≠ 0 := by simp at h1; omega
  repeat (first | refine g_op rfl ?_ | refine g_then ?_ | refine g_region ?_ | refine g_seq ?_ | refine g_skip ?_ | refine g_sub rfl (by omega) (by omega) ?_)
  refine g_callV rfl (fun w _ => within_c _ _ _ w) ?_
  repeat (first | refine g_op rfl ?_ | refine g_then ?_ | refine g_nil ?_)
  have hb : k < 0 ∨ (u.funcs.length : Int) ≤ k := by
    by_cases hb : k < 0 ∨ (u.funcs.length : Int) ≤ k
    · exact hb
    · exact absurd (by rw [askedL, if_neg h1', if_neg hb]) hbad
  have hw : within k 0 ((fn : Int) - 1) = false := by simp [within]; omega
  refine g_cond (fun h2 => ?_) (fun h2 => ?_)
  · repeat (first | refine g_op rfl ?_ | refine g_region ?_ | refine g_seq ?_)
    refine g_callV rfl (fun w _ => fault_c _ _ w) ?_
    repeat (first | refine g_then ?_ | refine g_nil ?_ | refine g_storeAgg ?_ | refine g_ret ?_ | refine g_thenRet ?_)
    refine g_retCC rfl fun _ hw => ⟨?_, hw.chg⟩
    rw [askedL, if_neg h1', if_pos hb]
    rfl
  · rw [hw] at h2; cases h2
theorem func_ok (u : LUnit) (hl : light u) (k : Nat) (hgood : (askedL u k).1 = 0) (g fs : Value) (X : LFunc) (hX : u.funcs[k]? = some X) (w0 : World) (hg : SlAt w0 g 3 u.globals GlobalV) (hf : SlAt w0 fs 4 u.funcs FuncV) (hways : CellsAt w0 0 0 waysC) :
    ∃ bv, SlAt w0 bv 6 X.blocks BlockV ∧ ∀ w, Chg NoS w0 w → RetV Tryd.prog 44 [.agg #[g, fs], .int .i64 k] w (.tuple #[.agg #[.string X.name, .int .i64 X.params, .int .i64 X.regs, bv], .agg #[.int .i64 0, .int .i64 0]]) := by
  have hg0 := hg
  have hf0 := hf
  obtain ⟨ga, gn, gc, gb, go, rfl, _⟩ := hg
  obtain ⟨fa, fn, fc, fb, fo, rfl, hfn, hfnc, hfnb, hfc, hfa, hfel⟩ := hf
  have hkl : k < fn := by rw [hfn]; exact (List.getElem?_eq_some_iff.1 hX).1
  have had : AddrIs fa fb fo := ⟨hfa (ne_of_get hX)⟩
  have hli : LtIs k fn := ⟨hkl⟩
  obtain ⟨cs, hcs, bv, rfl, hpi, hri, hbv⟩ := hfel k X hX
  refine ⟨bv, hbv, fun w1 hch => ?_⟩
  have hci : CellsIs w1 fb (fo + k * 4) _ := ⟨hcs.keep hch⟩
  obtain ⟨ba, bn, bc, _, _, rfl, _⟩ := hbv
  have h1' : (checkL u).1 = 0 := by
    by_cases h : (checkL u).1 = 0
    · exact h
    · rw [askedL, if_pos h] at hgood; exact hgood
  refine ret_enter Tryd.func44 rfl Tryd.ntmps44 rfl (Wd.nil NoS w1) ?_
  repeat (first | refine g_op rfl ?_ | refine g_then ?_ | refine g_nil ?_ | refine g_region ?_ | refine g_seq ?_ | refine g_box rfl fun _ _ => ?_ | refine g_alloc rfl fun _ _ => ?_)
  refine g_callV rfl (fun w hw => check_c u hl _ _ w (hg0.keep keeps_global (hch.trans hw.chg)) (hf0.keep keeps_func (hch.trans hw.chg)) (hways.keep (hch.trans hw.chg))) ?_
  rw [checkL_zero h1']
  repeat (first | refine g_op rfl ?_ | refine g_then ?_ | refine g_nil ?_ | refine g_region ?_ | refine g_seq ?_ | refine g_alloc rfl fun _ _ => ?_ | refine g_storeAgg ?_ | refine g_skip ?_ | refine g_condF ?_ | refine g_sub rfl (by omega) (by omega) ?_)
  refine g_callV rfl (fun w _ => within_c _ _ _ w) ?_
  repeat (first | refine g_op rfl ?_ | refine g_then ?_ | refine g_nil ?_)
  have hw : within (k : Int) 0 ((fn : Int) - 1) = true := by simp [within]; omega
  refine g_cond (fun h2 => ?_) (fun h2 => ?_)
  · rw [hw] at h2; cases h2
  · repeat (first | refine g_op rfl ?_ | refine g_then ?_ | refine g_nil ?_ | refine g_region ?_ | refine g_seq ?_ | refine g_storeAgg ?_ | refine g_skip ?_ | refine g_ret ?_)
    refine g_retCC rfl fun _ hw => ⟨rfl, hw.chg⟩
end Go.Proofs.YtebajiafdkokjaaDoor

/- graph.Parts and the law GraphParts. -/
namespace Go.Proofs.YtebajiafdkokjaaDoor
open Go Go.RowKit
attribute [local irreducible] wpListIn Code.wpIn Exit.then Exit.inBlock bodyPost wpQuiet wpAnyIn
set_option maxHeartbeats 2000000

theorem bodyErr_good {fs : List LFunc} {f : LFunc} (h : bodyErr fs f = 0) : GoodB f.blocks := by
  unfold bodyErr at h
  split at h
  · rename_i h1; exact absurd h h1
  · rename_i h1
    have hz := firstI_zero (by simpa using h1)
    intro b hb
    obtain ⟨j, hj⟩ := List.getElem?_of_mem hb
    have := hz j (List.getElem?_eq_some_iff.1 hj).1
    simp only [at0, hj] at this
    exact endE_ok this
theorem check_bodies {u : LUnit} (h : (checkL u).1 = 0) : ∀ X ∈ u.funcs, bodyErr u.funcs X = 0 := by
  unfold checkL at h
  split at h
  · cases h
  · split at h
    · rename_i h2; exact absurd h h2
    · split at h
      · rename_i h2; exact absurd h h2
      · split at h
        · rename_i h2; exact absurd h h2
        · rename_i h4
          have hz := firstI_zero (by simpa using h4)
          intro X hX
          obtain ⟨j, hj⟩ := List.getElem?_of_mem hX
          have := hz j (List.getElem?_eq_some_iff.1 hj).1
          simpa only [at0, hj] using this
theorem asked_ok {u : LUnit} {k : Int} (h : (askedL u k).1 = 0) : (checkL u).1 = 0 ∧ askedL u k = (0, 0) ∧ ∃ (i : Nat) (X : LFunc), k = i ∧ u.funcs[i]? = some X ∧ GoodB X.blocks := by
  unfold askedL at h ⊢
  by_cases h1 : (checkL u).1 ≠ 0
  · rw [if_pos h1] at h; exact absurd h h1
  · rw [if_neg h1] at h ⊢
    by_cases h2 : k < 0 ∨ (u.funcs.length : Int) ≤ k
    · rw [if_pos h2] at h; cases h
    · rw [if_neg h2]
      have h0 : (checkL u).1 = 0 := by simpa using h1
      have hlt : k.toNat < u.funcs.length := by omega
      exact ⟨h0, rfl, k.toNat, u.funcs[k.toNat], by omega, List.getElem?_eq_getElem hlt, bodyErr_good (check_bodies h0 _ (List.getElem_mem hlt))⟩

def valP (n p : Nat) : Value := .slice (some ⟨p, 0, none⟩) n n
noncomputable def entP (bl : List LBlock) (n : Nat) (q : Nat × Nat) : Ent := Ent.vec (some ⟨q.1, 0, none⟩) n n 4 1 ((seenOf bl q.2).map .bool)
theorem parts_bad (u : LUnit) (hl : light u) (k : Int) (hk : inI k) (hbad : (askedL u k).1 ≠ 0) (g fs : Value) (w0 : World) (hg : SlAt w0 g 3 u.globals GlobalV) (hf : SlAt w0 fs 4 u.funcs FuncV) (hways : CellsAt w0 0 0 waysC) :
    RetV Tryd.prog 15 [.agg #[g, fs], .int .i64 k] w0 (.tuple #[.slice none 0 0, .agg #[.int .i64 (askedL u k).1, .int .i64 (askedL u k).2]]) := by
  have hg0 := hg
  have hf0 := hf
  obtain ⟨ga, gn, gc, gb, go, rfl, _⟩ := hg
  obtain ⟨fa, fn, fc, fb, fo, rfl, _⟩ := hf
  refine ret_enter Tryd.func15 rfl Tryd.ntmps15 rfl (Wd.nil NoS w0) ?_
  repeat (first | refine g_op rfl ?_ | refine g_then ?_ | refine g_nil ?_ | refine g_region ?_ | refine g_seq ?_ | refine g_box rfl fun _ _ => ?_ | refine g_alloc rfl fun _ _ => ?_)
  rename_i p2 _ p5 _
  refine g_callV rfl (fun w hw => func_bad u hl k hk hbad _ _ w (hg0.keep keeps_global hw.chg) (hf0.keep keeps_func hw.chg) (hways.keep hw.chg)) ?_
  unfold zeroFn
  repeat (first | refine g_op rfl ?_ | refine g_then ?_ | refine g_nil ?_ | refine g_region ?_ | refine g_seq ?_ | refine g_alloc rfl fun _ _ => ?_ | refine g_storeAgg ?_)
  rename_i p6 _ p7 _
  refine g_cond (fun h1 => ?_) (fun h1 => ?_)
  · repeat (refine g_seq ?_)
    refine g_drawW [(4, .slice none 0 0), (5, .pointer (some ⟨p5, 0, none⟩))] [Ent.box p5 [.int .i64 (askedL u k).1, .int .i64 (askedL u k).2] 29] mixed ?_ ?_
    · repeat' (first | refine g_any0 (by decide +kernel) ?_ | refine g_any (by decide +kernel) ?_ | refine any_nil | refine any_skip (by decide +kernel) ?_ | refine any_cons ?_ ?_ | refine g_op rfl ?_ | refine g_then ?_ | refine g_nil ?_ | refine g_opS rfl ?_ | refine g_storeAgg ?_)
      all_goals exact g_done (by repeat (first | exact trivial | refine ⟨rfl, ?_⟩)) (by simp)
    · repeat (first | refine g_then ?_ | refine g_ret ?_ | refine g_thenRet ?_)
      exact g_retTC rfl fun _ hw => ⟨rfl, hw.chg⟩
  · exact absurd h1 (by simp [hbad])
theorem parts_ok (u : LUnit) (hl : light u) (k : Nat) (hgood : (askedL u k).1 = 0) (X : LFunc) (hX : u.funcs[k]? = some X) (hok : GoodB X.blocks) (g fs : Value) (w0 : World) (hg : SlAt w0 g 3 u.globals GlobalV) (hf : SlAt w0 fs 4 u.funcs FuncV) (hways : CellsAt w0 0 0 waysC) :
    Ret Tryd.prog 15 [.agg #[g, fs], .int .i64 k] w0 fun v w' => ∃ x : Option Addr × Nat, v = .tuple #[.slice x.1 X.blocks.length x.2, .agg #[.int .i64 0, .int .i64 0]] ∧ Wd NoS w0 [Ent.vec x.1 X.blocks.length x.2 3 1 ((List.range X.blocks.length).map fun b => intN (partOf X.blocks b))] w' ∧ True := by
  classical
  have hg0 := hg
  have hf0 := hf
  obtain ⟨ga, gn, gc, gb, go, rfl, _⟩ := hg
  obtain ⟨fa, fn, fc, fb, fo, rfl, _⟩ := hf
  have hlx := hl.2 X (List.mem_of_getElem? hX)
  have h24 := hlx.1
  obtain ⟨bv, hbv, hfc⟩ := func_ok u hl k hgood _ _ X hX w0 hg0 hf0 hways
  have hbv0 := hbv
  obtain ⟨ba, n, bc, bb, bo', rfl, hn, hnc, hnb, hbc, hba, hel⟩ := hbv
  refine ret_enter Tryd.func15 rfl Tryd.ntmps15 rfl (Wd.nil NoS w0) ?_
  repeat (first | refine g_op rfl ?_ | refine g_then ?_ | refine g_nil ?_ | refine g_region ?_ | refine g_seq ?_ | refine g_box rfl fun _ _ => ?_ | refine g_alloc rfl fun _ _ => ?_)
  rename_i p2 _ p5 _
  refine g_callV rfl (fun w hw => hfc w hw.chg) ?_
  repeat (first | refine g_op rfl ?_ | refine g_then ?_ | refine g_nil ?_ | refine g_region ?_ | refine g_seq ?_ | refine g_alloc rfl fun _ _ => ?_ | refine g_storeAgg ?_ | refine g_block ?_ | refine g_skip ?_ | refine g_condF ?_)
  rename_i p6 _ p7 _
  refine g_nilVec 38 1 ?_
  refine g_loop (fun (x : Option Addr × Nat × List Nat) => x.2.2.length ≤ n)
    (fun x => [(26, .int .i64 x.2.2.length), (24, .slice ba n bc), (25, .int .i64 n), (8, .slice x.1 x.2.2.length x.2.1), (5, .pointer (some ⟨p5, 0, none⟩)), (6, .pointer (some ⟨p6, 0, none⟩)), (7, .pointer (some ⟨p7, 0, none⟩))])
    (fun x => Ent.vec x.1 x.2.2.length x.2.1 38 1 (x.2.2.map (valP n)) :: Ent.box p7 [.int .i64 0, .int .i64 0] 29 :: Ent.box p6 [.string X.name, .int .i64 X.params, .int .i64 X.regs, .slice ba n bc] 35 :: Ent.box p5 [.int .i64 0, .int .i64 0] 29 :: x.2.2.zipIdx.map (entP X.blocks n))
    (fun x => n - x.2.2.length) (none, 0, []) (Nat.zero_le _) (g_done (by repeat (first | exact trivial | refine ⟨rfl, ?_⟩)) (by simp)) fun x hi => ?_
  obtain ⟨oa, oc, rs⟩ := x
  simp only at hi ⊢
  repeat (first | refine g_op rfl ?_ | refine g_then ?_ | refine g_nil ?_ | refine g_region ?_ | refine g_seq ?_)
  refine g_cond (fun h1 => ?_) (fun h1 => ?_)
  · have hlt : rs.length < n := by simpa using h1
    repeat (first | refine g_op rfl ?_ | refine g_then ?_ | refine g_nil ?_ | refine g_region ?_ | refine g_seq ?_ | refine g_block ?_ | refine g_skip ?_)
    refine g_callE (val := fun p : Nat => .slice (some ⟨p, 0, none⟩) X.blocks.length X.blocks.length) (E := fun p => [Ent.vec (some ⟨p, 0, none⟩) X.blocks.length X.blocks.length 4 1 ((seenOf X.blocks rs.length).map .bool)]) (φ := fun _ => True) rfl (fun w hw => graphFrom_c _ _ _ X.blocks _ rs.length w (hbv0.keep keeps_block hw.chg) (by omega) hok (by omega)) fun p _ => ?_
    rw [← hn]
    simp only [List.cons_append, List.nil_append]
    repeat (refine g_build1 rfl rfl fun _ _ => ?_)
    refine g_append rfl rfl (by omega) (by omega) fun a' c' => ?_
    refine g_fix (L' := [(34, .slice a' (rs.length + 1) c'), (26, .int .i64 rs.length), (24, .slice ba n bc), (25, .int .i64 n), (5, .pointer (some ⟨p5, 0, none⟩)), (6, .pointer (some ⟨p6, 0, none⟩)), (7, .pointer (some ⟨p7, 0, none⟩))]) (by repeat (first | exact trivial | refine ⟨rfl, ?_⟩)) (List.Sublist.cons _ (List.Sublist.refl _)) ?_
    refine g_permH (List.perm_append_singleton _ _).symm ?_
    refine g_eqH (H1 := Ent.vec a' (rs ++ [p]).length c' 38 1 ((rs ++ [p]).map (valP n)) :: Ent.box p7 [.int .i64 0, .int .i64 0] 29 :: Ent.box p6 [.string X.name, .int .i64 X.params, .int .i64 X.regs, .slice ba n bc] 35 :: Ent.box p5 [.int .i64 0, .int .i64 0] 29 :: (rs ++ [p]).zipIdx.map (entP X.blocks n)) (by simp [valP, entP, List.zipIdx_append]) ?_
    repeat (first | refine g_op rfl ?_ | refine g_then ?_ | refine g_nil ?_ | refine g_region ?_ | refine g_opS rfl ?_ | refine g_inBlock ?_ | refine g_add rfl (by omega) (by omega) ?_)
    refine g_next (a', c', rs ++ [p]) (by simp only [List.length_append, List.length_singleton]; omega) (by simp only [List.length_append, List.length_singleton]; omega) ?_ (List.Sublist.refl _)
    simp only [List.length_append, List.length_singleton, Int.natCast_add]
    exact (by repeat (first | exact trivial | refine ⟨rfl, ?_⟩))
  have hge : rs.length = n := by have := h1; simp at this; omega
  repeat (first | refine g_op rfl ?_ | refine g_then ?_ | refine g_nil ?_ | refine g_region ?_ | refine g_seq ?_ | refine g_block ?_ | refine g_exit ?_ | refine g_thenExit ?_ | refine g_exitHere ?_)
  refine g_nilVec 3 1 ?_
  refine g_loop (fun (x : Nat × Option Addr × Nat × Option Addr) => x.1 ≤ n)
    (fun x => [(39, .int .i64 x.1), (37, .slice ba n bc), (38, .int .i64 n), (8, .slice x.2.2.2 rs.length oc), (10, .slice x.2.1 x.1 x.2.2.1), (5, .pointer (some ⟨p5, 0, none⟩)), (7, .pointer (some ⟨p7, 0, none⟩))])
    (fun x => Ent.vec x.2.1 x.1 x.2.2.1 3 1 ((List.range x.1).map fun b => intN (partOf X.blocks b)) :: Ent.vec x.2.2.2 rs.length oc 38 1 (rs.map (valP n)) :: Ent.box p7 [.int .i64 0, .int .i64 0] 29 :: Ent.box p5 [.int .i64 0, .int .i64 0] 29 :: rs.zipIdx.map (entP X.blocks n))
    (fun x => n - x.1) (0, none, 0, oa) (Nat.zero_le _) (g_done (by repeat (first | exact trivial | refine ⟨rfl, ?_⟩)) (List.Sublist.cons_cons _ (List.Sublist.cons_cons _ (List.Sublist.cons_cons _ (List.Sublist.cons _ (List.Sublist.refl _)))))) fun x hi => ?_
  obtain ⟨b, ra, rc, oa2⟩ := x
  simp only at hi ⊢
  repeat (first | refine g_op rfl ?_ | refine g_then ?_ | refine g_nil ?_ | refine g_region ?_ | refine g_seq ?_)
  refine g_cond (fun h2 => ?_) (fun h2 => ?_)
  · have hb : b < n := by simpa using h2
    refine g_vec 1 rfl (by omega) fun bo oo hoa => ?_
    subst hoa
    have look : ∀ d, d < n → ∃ pd, rs[d]? = some pd ∧ XAt (rs.map (valP n)) (d * 1) (.slice (some ⟨pd, 0, none⟩) n n) ∧ ∀ e, e < n → OwnCell (rs.zipIdx.map (entP X.blocks n)) pd (0 + e * 1) (.bool (decide (Rch X.blocks (-1) d e))) := by
      intro d hd
      have hdl : d < rs.length := by omega
      refine ⟨rs[d], List.getElem?_eq_getElem hdl, ⟨by simp [valP, hdl]⟩, fun e he => ⟨fun S w0 w hw => ?_⟩⟩
      refine hw.vecCell (k := d) (n := n) (c := n) (e := 4) (s := 1) (xs := (seenOf X.blocks d).map .bool) ?_ ?_
      · rw [List.getElem?_map, List.getElem?_zipIdx, List.getElem?_eq_getElem hdl]
        simp [entP]
      · rw [Nat.mul_one, List.getElem?_map, seenOf_get (by omega)]; rfl
    obtain ⟨pb, hpb, hxb, hob⟩ := look b hb
    have hlb : LtIs b rs.length := ⟨by omega⟩
    repeat (first | refine g_op rfl ?_ | refine g_then ?_ | refine g_nil ?_ | refine g_region ?_ | refine g_seq ?_ | refine g_block ?_ | refine g_skip ?_)
    refine g_loop (fun (c : Nat) => c ≤ b ∧ ∀ d, d < c → ¬ Mut X.blocks b d) (fun c => [(12, .int .i64 c), (11, .int .i64 b), (39, .int .i64 b), (37, .slice ba n bc), (38, .int .i64 n), (8, .slice (some ⟨bo, oo, none⟩) rs.length oc), (10, .slice ra b rc), (5, .pointer (some ⟨p5, 0, none⟩)), (7, .pointer (some ⟨p7, 0, none⟩))])
      (fun _ => Ent.vec ra b rc 3 1 ((List.range b).map fun b => intN (partOf X.blocks b)) :: Ent.vec (some ⟨bo, oo, none⟩) rs.length oc 38 1 (rs.map (valP n)) :: Ent.box p7 [.int .i64 0, .int .i64 0] 29 :: Ent.box p5 [.int .i64 0, .int .i64 0] 29 :: rs.zipIdx.map (entP X.blocks n))
      (fun c => b - c) 0 ⟨Nat.zero_le _, by simp⟩ (g_done (by repeat (first | exact trivial | refine ⟨rfl, ?_⟩)) (List.Sublist.refl _)) fun c ⟨hc, hall⟩ => ?_
    have hcn : c < n := by omega
    obtain ⟨pc, hpc, hxc, hocc⟩ := look c hcn
    have hlc : LtIs c rs.length := ⟨by omega⟩
    have hlc2 : LtIs c n := ⟨hcn⟩
    have hlb2 : LtIs b n := ⟨hb⟩
    have ho1 := hob c hcn
    have ho2 := hocc b hb
    have step : ¬ Mut X.blocks b c → (c + 1 ≤ b ∧ ∀ d, d < c + 1 → ¬ Mut X.blocks b d) := fun hm => by
      have hcb : c ≠ b := fun e => hm (by rw [e]; exact ⟨Rch.refl, Rch.refl⟩)
      refine ⟨by omega, fun d hd => ?_⟩
      by_cases hdc : d = c
      · subst hdc; exact hm
      · exact hall d (by omega)
    generalize hs1 : decide (Rch X.blocks (-1) b c) = s1 at ho1
    generalize hs2 : decide (Rch X.blocks (-1) c b) = s2 at ho2
    cases s1
    · repeat (first | refine g_op rfl ?_ | refine g_then ?_ | refine g_nil ?_ | refine g_region ?_ | refine g_seq ?_ | refine g_opS rfl ?_ | refine g_pass rfl ?_ | refine g_inBlock ?_ | refine g_block ?_ | refine g_skip ?_ | refine g_condT ?_ | refine g_add rfl (by omega) (by omega) ?_)
      have hst := step (fun hm => by simp [hm.1] at hs1)
      exact g_next (c + 1) hst (by have := hst.1; omega) (by repeat (first | exact trivial | refine ⟨rfl, ?_⟩)) (List.Sublist.refl _)
    · cases s2
      · repeat (first | refine g_op rfl ?_ | refine g_then ?_ | refine g_nil ?_ | refine g_region ?_ | refine g_seq ?_ | refine g_opS rfl ?_ | refine g_open ?_ | refine g_inBlock ?_ | refine g_block ?_ | refine g_skip ?_ | refine g_condT ?_ | refine g_add rfl (by omega) (by omega) ?_)
        have hst := step (fun hm => by simp [hm.2] at hs2)
        exact g_next (c + 1) hst (by have := hst.1; omega) (by repeat (first | exact trivial | refine ⟨rfl, ?_⟩)) (List.Sublist.refl _)
      · have hm : Mut X.blocks b c := ⟨by simpa using hs1, by simpa using hs2⟩
        have hpart : partOf X.blocks b = c := partOf_eq (by omega) hm hall
        repeat (first | refine g_op rfl ?_ | refine g_then ?_ | refine g_nil ?_ | refine g_region ?_ | refine g_seq ?_ | refine g_open ?_ | refine g_condF ?_ | refine g_exit ?_ | refine g_thenExit ?_ | refine g_exitHere ?_ | refine g_build1 rfl rfl fun _ _ => ?_)
        refine g_append rfl rfl (by omega) (by omega) fun a' c' => ?_
        rw [show (List.range b).map (fun b => intN (partOf X.blocks b)) ++ [.int .i64 (c : Int)] = (List.range (b + 1)).map (fun b => intN (partOf X.blocks b)) by simp [List.range_succ, intN, hpart]]
        repeat (first | refine g_then ?_ | refine g_nil ?_ | refine g_region ?_ | refine g_opS rfl ?_ | refine g_inBlock ?_ | refine g_add rfl (by omega) (by omega) ?_)
        exact g_next (b + 1, a', c', some ⟨bo, oo, none⟩) hb (by simp only; omega) (by repeat (first | exact trivial | refine ⟨rfl, ?_⟩)) (List.Sublist.cons _ (List.Sublist.refl _))
  · have hgb : b = n := by have := h2; simp at this; omega
    repeat (first | refine g_then ?_ | refine g_seq ?_ | refine g_exit ?_ | refine g_thenExit ?_ | refine g_exitHere ?_)
    refine g_drawW [(4, .slice ra b rc), (5, .pointer (some ⟨p5, 0, none⟩))] [Ent.vec ra b rc 3 1 ((List.range b).map fun b => intN (partOf X.blocks b)), Ent.box p5 [.int .i64 0, .int .i64 0] 29] mixed ?_ ?_
    · repeat' (first | refine g_any0 (by decide +kernel) ?_ | refine g_any (by decide +kernel) ?_ | refine any_nil | refine any_skip (by decide +kernel) ?_ | refine any_cons ?_ ?_ | refine g_op rfl ?_ | refine g_then ?_ | refine g_nil ?_ | refine g_storeAgg ?_)
      all_goals exact g_done (by repeat (first | exact trivial | refine ⟨rfl, ?_⟩)) (List.Sublist.cons_cons _ (List.Sublist.cons _ (List.Sublist.cons _ (List.Sublist.cons_cons _ (List.nil_sublist _)))))
    · repeat (first | refine g_then ?_ | refine g_ret ?_)
      refine g_retTC rfl fun w hw => ⟨(ra, rc), ?_, ?_, trivial⟩
      · rw [← hn, ← hgb]
      · rw [← hn, ← hgb]
        exact hw.sub (List.Sublist.cons_cons _ (List.nil_sublist _))

theorem partsLaw_c (u : LUnit) (k : Int) (hk : inI k) (g fs : Value) (w0 : World) (hg : SlAt w0 g 3 u.globals GlobalV) (hf : SlAt w0 fs 4 u.funcs FuncV) (hways : CellsAt w0 0 0 waysC) :
    RetV Tryd.prog 3 [.agg #[g, fs], .int .i64 k] w0 (.bool true) := by
  have hg0 := hg
  have hf0 := hf
  obtain ⟨ga, gn, gc, gb, go, rfl, _⟩ := hg
  obtain ⟨fa, fn, fc, fb, fo, rfl, hfn, hfnc, hfnb, hfc, hfa, hfel⟩ := hf
  refine ret_enter Tryd.func3 rfl Tryd.ntmps3 rfl (Wd.nil NoS w0) ?_
  repeat (first | refine g_op rfl ?_ | refine g_then ?_ | refine g_nil ?_ | refine g_region ?_ | refine g_seq ?_ | refine g_box rfl fun _ _ => ?_)
  rename_i p2 _
  refine g_callE (val := fun b : Bool => .bool b) (E := fun _ => []) (φ := fun b => b = false → light u) rfl (fun w hw => heavy_c u _ _ w (hf0.keep keeps_func hw.chg) ⟨_, _, _, rfl⟩) fun b hb => ?_
  simp only [List.nil_append]
  cases b
  case true =>
    repeat (first | refine g_then ?_ | refine g_nil ?_ | refine g_region ?_ | refine g_seq ?_ | refine g_opS rfl ?_ | refine g_condT ?_ | refine g_ret ?_ | refine g_thenRet ?_)
    exact g_retV rfl rfl
  have hl := hb rfl
  repeat (first | refine g_op rfl ?_ | refine g_then ?_ | refine g_nil ?_ | refine g_region ?_ | refine g_seq ?_ | refine g_skip ?_ | refine g_condF ?_)
  by_cases hbad : (askedL u k).1 ≠ 0
  · refine g_callV rfl (fun w hw => parts_bad u hl k hk hbad _ _ w (hg0.keep keeps_global hw.chg) (hf0.keep keeps_func hw.chg) (hways.keep hw.chg)) ?_
    repeat (first | refine g_op rfl ?_ | refine g_then ?_ | refine g_nil ?_ | refine g_region ?_ | refine g_seq ?_ | refine g_alloc rfl fun _ _ => ?_ | refine g_storeAgg ?_)
    refine g_callV rfl (fun w hw => asked_c u hl k _ _ w (hg0.keep keeps_global hw.chg) (hf0.keep keeps_func hw.chg) (hways.keep hw.chg)) ?_
    repeat (first | refine g_op rfl ?_ | refine g_then ?_ | refine g_nil ?_ | refine g_region ?_ | refine g_seq ?_ | refine g_alloc rfl fun _ _ => ?_ | refine g_storeAgg ?_)
    refine g_cond (fun h1 => ?_) (fun h1 => ?_)
    · repeat (first | refine g_op rfl ?_ | refine g_region ?_ | refine g_seq ?_)
      rw [show (decide ((askedL u k).1 = (askedL u k).1) && decide ((askedL u k).2 = (askedL u k).2)) = true by simp]
      repeat (first | refine g_op rfl ?_ | refine g_then ?_ | refine g_nil ?_ | refine g_opS rfl ?_ | refine g_open ?_ | refine g_ret ?_ | refine g_thenRet ?_)
      exact g_retV rfl rfl
    · exact absurd h1 (by simp [hbad])
  have hgood : (askedL u k).1 = 0 := by simpa using hbad
  obtain ⟨hch, has, i, X, rfl, hX, hok⟩ := asked_ok hgood
  have hil : i < fn := by rw [hfn]; exact (List.getElem?_eq_some_iff.1 hX).1
  have had : AddrIs fa fb fo := ⟨hfa (ne_of_get hX)⟩
  have hli : LtIs i fn := ⟨hil⟩
  obtain ⟨cs, hcs, bv, rfl, hpi, hri, hbv⟩ := hfel i X hX
  have hci : CellsIs w0 fb (fo + i * 4) _ := ⟨hcs⟩
  have hbv0 := hbv
  obtain ⟨ba, bn, bc, _, _, rfl, hbn, _⟩ := hbv
  have h24 := (hl.2 X (List.mem_of_getElem? hX)).1
  refine g_callE (val := fun x : Option Addr × Nat => .tuple #[.slice x.1 X.blocks.length x.2, .agg #[.int .i64 0, .int .i64 0]]) (E := fun x => [Ent.vec x.1 X.blocks.length x.2 3 1 ((List.range X.blocks.length).map fun b => intN (partOf X.blocks b))]) (φ := fun _ => True) rfl (fun w hw => parts_ok u hl i hgood X hX hok _ _ w (hg0.keep keeps_global hw.chg) (hf0.keep keeps_func hw.chg) (hways.keep hw.chg)) fun x _ => ?_
  obtain ⟨ra, rc⟩ := x
  simp only [List.cons_append, List.nil_append]
  rw [← hbn]
  repeat (first | refine g_op rfl ?_ | refine g_then ?_ | refine g_nil ?_ | refine g_region ?_ | refine g_seq ?_ | refine g_alloc rfl fun _ _ => ?_ | refine g_storeAgg ?_)
  rename_i p6 _
  refine g_callV rfl (fun w hw => asked_c u hl i _ _ w (hg0.keep keeps_global hw.chg) (hf0.keep keeps_func hw.chg) (hways.keep hw.chg)) ?_
  rw [has]
  repeat (first | refine g_op rfl ?_ | refine g_then ?_ | refine g_nil ?_ | refine g_region ?_ | refine g_seq ?_ | refine g_alloc rfl fun _ _ => ?_ | refine g_storeAgg ?_ | refine g_skip ?_ | refine g_condF ?_)
  rename_i p7 _
  refine g_cond (fun h1 => ?_) (fun h1 => ?_)
  · exact absurd h1 (by simp)
  repeat (first | refine g_op rfl ?_ | refine g_then ?_ | refine g_nil ?_ | refine g_region ?_ | refine g_seq ?_ | refine g_block ?_ | refine g_skip ?_)
  refine g_loop (fun (x : Nat × Option Addr) => x.1 ≤ bn) (fun x => [(8, .int .i64 x.1), (5, .slice x.2 bn rc), (1, .int .i64 i), (2, .pointer (some ⟨p2, 0, none⟩)), (6, .pointer (some ⟨p6, 0, none⟩)), (7, .pointer (some ⟨p7, 0, none⟩)), (4, .bool false)])
    (fun x => [Ent.box p7 [.int .i64 0, .int .i64 0] 29, Ent.box p6 [.int .i64 0, .int .i64 0] 29, Ent.vec x.2 bn rc 3 1 ((List.range bn).map fun b => intN (partOf X.blocks b)), Ent.box p2 [.slice ga gn gc, .slice fa fn fc] 25]) (fun x => bn - x.1) (0, ra) (Nat.zero_le _) (g_done (by repeat (first | exact trivial | refine ⟨rfl, ?_⟩)) (List.Sublist.refl _)) fun x hj => ?_
  obtain ⟨j, ra⟩ := x
  simp only at hj ⊢
  repeat (first | refine g_op rfl ?_ | refine g_then ?_ | refine g_nil ?_ | refine g_region ?_ | refine g_seq ?_)
  refine g_cond (fun h2 => ?_) (fun h2 => ?_)
  · have hjl : j < bn := by simpa using h2
    refine g_vec 2 rfl (by omega) fun rb ro hra => ?_
    subst hra
    have hlj : LtIs j bn := ⟨hjl⟩
    have hxa : XAt ((List.range bn).map fun b => intN (partOf X.blocks b)) (j * 1) (.int .i64 (partOf X.blocks j : Int)) := ⟨by simp [hjl, intN]⟩
    repeat (first | refine g_then ?_ | refine g_seq ?_ | refine g_block ?_ | refine g_skip ?_)
    refine g_draw mixed (by kernel_rfl) ?_
    repeat (refine q_op rfl ?_)
    refine q_call rfl (fun w hw => part_c _ _ _ X.blocks _ ⟨_, _, _, rfl⟩ j w (hbv0.keep keeps_block hw.chg) (by omega) hok (by omega)) ?_
    repeat (first | refine q_op rfl ?_ | refine q_nil ?_)
    repeat (refine g_then ?_)
    refine g_cond (fun h3 => ?_) (fun h3 => ?_)
    · exact absurd h3 (by simp)
    · repeat (first | refine g_op rfl ?_ | refine g_then ?_ | refine g_nil ?_ | refine g_region ?_ | refine g_opS rfl ?_ | refine g_inBlock ?_ | refine g_skip ?_ | refine g_add rfl (by omega) (by omega) ?_)
      exact g_next (j + 1, some ⟨rb, ro, none⟩) hjl (by simp only; omega) (by repeat (first | exact trivial | refine ⟨rfl, ?_⟩)) (List.Sublist.refl _)
  · repeat (first | refine g_op rfl ?_ | refine g_then ?_ | refine g_region ?_ | refine g_seq ?_ | refine g_exit ?_ | refine g_thenExit ?_ | refine g_exitHere ?_)
    rw [show (decide ((0 : Int) = 0) && decide ((0 : Int) = 0)) = true from rfl]
    repeat (first | refine g_op rfl ?_ | refine g_then ?_ | refine g_nil ?_ | refine g_opS rfl ?_ | refine g_ret ?_)
    exact g_retV rfl rfl
end Go.Proofs.YtebajiafdkokjaaDoor

/- dom.ends: from which blocks an end can be reached. -/
namespace Go.Proofs.YtebajiafdkokjaaDoor
open Go Go.RowKit
attribute [local irreducible] wpListIn Code.wpIn Exit.then Exit.inBlock bodyPost wpQuiet wpAnyIn
set_option maxHeartbeats 2000000

theorem bools_sl {S : Nat → Prop} {w0 w : World} {H : List Ent} {k c n e : Nat} {a : Option Addr} {l : List Bool} (h : Wd S w0 H w) (hk : H[k]? = some (Ent.vec a n c e 1 (l.map .bool))) (hn : n = l.length) (hb : n ≤ 100000) : SlAt w (.slice a n c) 1 l BoolV := by
  refine h.slAt hk hn (by omega) fun i x hx => ⟨[.bool x], fun j v hj => ?_, rfl⟩
  match j, hj with
  | 0, hj => simpa [hx] using hj
theorem endsOne_c (b _n : Nat) (v : Value) (l : List Bool) (x : Int) (k : Nat) (hk : x = k) (hkl : k < l.length) (w0 : World) (hc : CellsAt w0 b 0 [v]) (hv : SlAt w0 v 1 l BoolV) :
    RetV Tryd.prog 118 [.int .i64 x, .pointer (some ⟨b, 0, none⟩)] w0 (.bool (l[x.toNat]?.getD false)) := by
  obtain ⟨a, m, c, vb, vo, rfl, hn, hnc, hnb, hcc, ha, hel⟩ := hv
  have hci : CellsIs w0 b 0 _ := ⟨hc⟩
  obtain ⟨y, hy⟩ : ∃ y, l[k]? = some y := ⟨_, List.getElem?_eq_getElem hkl⟩
  have had : AddrIs a vb vo := ⟨ha (ne_of_get hy)⟩
  have hli : LtIs k m := ⟨by omega⟩
  have hni : NatIs x k := ⟨hk⟩
  obtain ⟨cs, hcs, rfl⟩ := hel k y hy
  have hcii : CellsIs w0 vb (vo + k * 1) _ := ⟨hcs⟩
  refine ret_enter Tryd.func118 rfl Tryd.ntmps118 rfl (Wd.nil NoS w0) ?_
  repeat (first | refine g_op rfl ?_ | refine g_then ?_ | refine g_nil ?_ | refine g_region ?_ | refine g_seq ?_ | refine g_opS rfl ?_ | refine g_ret ?_)
  exact g_retV rfl (by rw [hk]; simp [hy])

theorem ends_c (nm pa re : Value) (bl : List LBlock) (bs : Value) (wo : Int) (w0 : World) (hbs : SlAt w0 bs 6 bl BlockV) (hlen : bl.length ≤ 100) (hok : GoodB bl) :
    Ret Tryd.prog 85 [.agg #[nm, pa, re, bs], .int .i64 wo] w0 fun u w' => ∃ p : Nat, u = .slice (some ⟨p, 0, none⟩) bl.length bl.length ∧ Wd NoS w0 [Ent.vec (some ⟨p, 0, none⟩) bl.length bl.length 4 1 ((endsOf bl wo).map .bool)] w' ∧ True := by
  obtain ⟨ba, n, bc, bb, bo', rfl, hn, hnc, hnb, hbc, hba, hel⟩ := hbs
  rw [← hn] at hlen ⊢
  refine ret_enter Tryd.func85 rfl Tryd.ntmps85 rfl (Wd.nil NoS w0) ?_
  repeat (first | refine g_op rfl ?_ | refine g_then ?_ | refine g_nil ?_ | refine g_region ?_ | refine g_seq ?_ | refine g_store ?_ | refine g_box rfl fun _ _ => ?_ | refine g_alloc rfl fun _ _ => ?_ | refine g_block ?_ | refine g_make rfl (by omega) (by omega) fun _ _ => ?_)
  rename_i p2 _ pv _ p5 _
  rw [show List.replicate n (Value.bool false) = (List.replicate n false).map Value.bool by simp]
  refine g_loop (fun (x : Bool × List Bool) => x.2.length = n ∧ (∀ y, x.2[y]? = some true → CanEnd bl wo y) ∧ (x.1 = false → ∀ y, y < n → (y : Int) ≠ wo → (kindOf bl y = 1 ∨ ∃ t, Edge bl y t ∧ x.2[t]? = some true) → x.2[y]? = some true))
    (fun x => [(6, .bool x.1), (5, .pointer (some ⟨p5, 0, none⟩)), (2, .pointer (some ⟨p2, 0, none⟩)), (1, .int .i64 wo)])
    (fun x => [Ent.box p5 [.slice (some ⟨pv, 0, none⟩) n n] 38, Ent.vec (some ⟨pv, 0, none⟩) n n 4 1 (x.2.map .bool), Ent.box p2 [nm, pa, re, .slice ba n bc] 35])
    (fun x => unseen x.2 * 2 + (if x.1 then 1 else 0)) (true, List.replicate n false) ⟨by simp, fun y hy => by simp [List.getElem?_replicate] at hy, by simp⟩ (g_done (by repeat (first | exact trivial | refine ⟨rfl, ?_⟩)) (List.Sublist.refl _)) fun x ⟨hol, hsound, hclosed⟩ => ?_
  obtain ⟨more, out⟩ := x
  simp only at hol hsound hclosed ⊢
  cases more
  case false =>
    have hcl := hclosed rfl
    have hfin : out = endsOf bl wo := by
      classical
      apply List.ext_getElem?
      intro y
      by_cases hy : y < n
      · rw [endsOf_get (by omega)]
        obtain ⟨sv, hsv⟩ : ∃ sv, out[y]? = some sv := ⟨_, List.getElem?_eq_getElem (by omega)⟩
        rw [hsv]
        congr 1
        cases sv
        · symm
          rw [decide_eq_false_iff_not]
          intro hr
          have := canEnd_closed (p := fun y => out[y]? = some true) (fun x hx hw hk => hcl x (by omega) hw (.inl hk)) (fun x y hx hw he hp => hcl x (by omega) hw (.inr ⟨y, he, hp⟩)) (by omega) hok hr
          rw [hsv] at this
          cases this
        · symm
          rw [decide_eq_true_eq]
          exact hsound y hsv
      · rw [List.getElem?_eq_none (by omega), List.getElem?_eq_none (by rw [endsOf_length]; omega)]
    repeat (first | refine g_op rfl ?_ | refine g_then ?_ | refine g_nil ?_ | refine g_region ?_ | refine g_seq ?_ | refine g_condF ?_ | refine g_exit ?_ | refine g_thenExit ?_ | refine g_exitHere ?_ | refine g_ret ?_)
    refine g_ret1 rfl fun w hw => ⟨pv, rfl, ?_, trivial⟩
    rw [← hfin]
    exact hw.sub (List.Sublist.cons _ (List.Sublist.cons_cons _ (List.Sublist.cons _ (List.Sublist.refl _))))
  clear hclosed
  repeat (first | refine g_op rfl ?_ | refine g_then ?_ | refine g_nil ?_ | refine g_region ?_ | refine g_seq ?_ | refine g_opS rfl ?_ | refine g_block ?_ | refine g_skip ?_ | refine g_condT ?_)
  refine g_loop (fun (x : Nat × Bool × List Bool) => x.1 ≤ n ∧ x.2.2.length = n ∧ (∀ y, x.2.2[y]? = some true → CanEnd bl wo y) ∧ (x.2.1 = false → x.2.2 = out ∧ ∀ y, y < x.1 → (y : Int) ≠ wo → (kindOf bl y = 1 ∨ ∃ t, Edge bl y t ∧ out[t]? = some true) → out[y]? = some true) ∧ (x.2.1 = true → unseen x.2.2 < unseen out))
    (fun x => [(18, .int .i64 x.1), (16, .slice ba n bc), (17, .int .i64 n), (6, .bool x.2.1), (5, .pointer (some ⟨p5, 0, none⟩)), (2, .pointer (some ⟨p2, 0, none⟩)), (1, .int .i64 wo)])
    (fun x => [Ent.box p5 [.slice (some ⟨pv, 0, none⟩) n n] 38, Ent.vec (some ⟨pv, 0, none⟩) n n 4 1 (x.2.2.map .bool), Ent.box p2 [nm, pa, re, .slice ba n bc] 35])
    (fun x => n - x.1) (0, false, out) ⟨Nat.zero_le _, hol, hsound, fun _ => ⟨rfl, by simp⟩, by simp⟩ (g_done (by repeat (first | exact trivial | refine ⟨rfl, ?_⟩)) (List.Sublist.refl _)) fun x ⟨hi, hol', hsound', hno, hyes⟩ => ?_
  obtain ⟨i, more', out'⟩ := x
  simp only at hi hol' hsound' hno hyes ⊢
  repeat (first | refine g_op rfl ?_ | refine g_then ?_ | refine g_nil ?_ | refine g_region ?_ | refine g_seq ?_)
  refine g_cond (fun h1 => ?_) (fun h1 => ?_)
  · have hlt : i < n := by simpa using h1
    obtain ⟨B, hB⟩ := get_lt hn hlt
    have had : AddrIs ba bb bo' := ⟨hba (ne_of_get hB)⟩
    have hli : LtIs i n := ⟨hlt⟩
    obtain ⟨cs, hcs, pv', lv, tv, rfl, _, _, hphis, hlist, ht⟩ := hel i B hB
    obtain ⟨pa', pn, pc, _, _, rfl, _⟩ := hphis
    obtain ⟨la, ln, lc, _, _, rfl, _⟩ := hlist
    have ht0 := ht
    obtain ⟨ta, tn, tc, tb, to', rfl, htn, htnc, htnb, htc, hta, htel⟩ := ht
    have hci : CellsIs w0 bb (bo' + i * 6) _ := ⟨hcs⟩
    have hBok := hok B (List.mem_of_getElem? hB)
    have hkind : kindOf bl i = B.kind := by simp [kindOf, hB]
    obtain ⟨ov, hov⟩ : ∃ ov, out'[i]? = some ov := ⟨_, List.getElem?_eq_getElem (by omega)⟩
    have hea : ElAt out' i ov := ⟨hov⟩
    repeat (first | refine g_op rfl ?_ | refine g_then ?_ | refine g_nil ?_ | refine g_region ?_ | refine g_seq ?_ | refine g_alloc rfl fun _ _ => ?_ | refine g_storeAgg ?_ | refine g_block ?_ | refine g_skip ?_)
    generalize hk1 : decide (B.kind = 1) = k1
    refine g_joinTo 33 (.bool (k1 || B.to.any fun t => out'[t.toNat]?.getD false)) ?_ ?_
    · cases k1
      · repeat (first | refine g_op rfl ?_ | refine g_open ?_)
        refine g_callV rfl (fun w hw => containsFI_c (f := 118) [.pointer (some ⟨p5, 0, none⟩)] (fun t => out'[t.toNat]?.getD false) _ B.to w (ht0.keep keeps_int hw.chg) fun w1 hw1 t ht => ?_) ?_
        · have htt := hBok.2 t ht
          exact endsOne_c p5 n _ out' t t.toNat (by omega) (by omega) w1 ((hw.boxCells p5).keep hw1) ((bools_sl hw (k := 2) rfl hol'.symm (by omega)).keep keeps_bool hw1)
        repeat (first | refine g_op rfl ?_ | refine g_then ?_ | refine g_nil ?_)
        exact g_done (by repeat (first | exact trivial | refine ⟨rfl, ?_⟩)) (List.Sublist.refl _)
      · repeat (first | refine g_op rfl ?_ | refine g_then ?_ | refine g_nil ?_ | refine g_pass rfl ?_)
        exact g_done (by repeat (first | exact trivial | refine ⟨rfl, ?_⟩)) (List.Sublist.refl _)
    have hon : (k1 || B.to.any fun t => out'[t.toNat]?.getD false) = true ↔ (kindOf bl i = 1 ∨ ∃ t, Edge bl i t ∧ out'[t]? = some true) := by
      subst hk1
      simp only [Bool.or_eq_true, decide_eq_true_eq, List.any_eq_true, hkind]
      constructor
      · rintro (h | ⟨t, ht, ho⟩)
        · exact .inl h
        · refine .inr ⟨t.toNat, ?_, ?_⟩
          · unfold Edge
            rw [toOf_get hB]
            have := hBok.2 t ht
            rw [show ((t.toNat : Nat) : Int) = t by omega]
            exact ht
          · cases hq : out'[t.toNat]? with
            | none => rw [hq] at ho; simp at ho
            | some q => rw [hq] at ho; simp at ho; rw [ho]
      · rintro (h | ⟨t, he, ho⟩)
        · exact .inl h
        · unfold Edge at he
          rw [toOf_get hB] at he
          exact .inr ⟨(t : Int), he, by simp [ho]⟩
    generalize (k1 || B.to.any fun t => out'[t.toNat]?.getD false) = o at hon
    have stay : (o = true → (i : Int) ≠ wo → ov = true) → (i + 1 ≤ n ∧ out'.length = n ∧ (∀ y, out'[y]? = some true → CanEnd bl wo y) ∧ (more' = false → out' = out ∧ ∀ y, y < i + 1 → (y : Int) ≠ wo → (kindOf bl y = 1 ∨ ∃ t, Edge bl y t ∧ out[t]? = some true) → out[y]? = some true) ∧ (more' = true → unseen out' < unseen out)) := by
      intro hs
      refine ⟨hlt, hol', hsound', fun hm => ?_, hyes⟩
      obtain ⟨e, hall⟩ := hno hm
      refine ⟨e, fun y hy hw hc => ?_⟩
      by_cases hyi : y = i
      · subst hyi
        have := hs (hon.2 (by rw [e]; exact hc)) hw
        rw [← e, hov, this]
      · exact hall y (by omega) hw hc
    cases o
    · repeat (first | refine g_op rfl ?_ | refine g_then ?_ | refine g_nil ?_ | refine g_region ?_ | refine g_seq ?_ | refine g_opS rfl ?_ | refine g_pass rfl ?_ | refine g_inBlock ?_ | refine g_skip ?_ | refine g_condF ?_ | refine g_add rfl (by omega) (by omega) ?_)
      exact g_next (i + 1, more', out') (stay (by simp)) (by simp only; omega) (by repeat (first | exact trivial | refine ⟨rfl, ?_⟩)) (List.Sublist.cons _ (List.Sublist.refl _))
    repeat (first | refine g_op rfl ?_ | refine g_then ?_ | refine g_nil ?_ | refine g_region ?_ | refine g_seq ?_ | refine g_open ?_)
    generalize hnw : (!decide ((i : Int) = wo)) = nw
    cases nw
    · have hw : (i : Int) = wo := by simpa using hnw
      repeat (first | refine g_op rfl ?_ | refine g_then ?_ | refine g_nil ?_ | refine g_region ?_ | refine g_opS rfl ?_ | refine g_pass rfl ?_ | refine g_inBlock ?_ | refine g_skip ?_ | refine g_condF ?_ | refine g_add rfl (by omega) (by omega) ?_)
      exact g_next (i + 1, more', out') (stay fun _ h => absurd hw h) (by simp only; omega) (by repeat (first | exact trivial | refine ⟨rfl, ?_⟩)) (List.Sublist.cons _ (List.Sublist.refl _))
    have hw : (i : Int) ≠ wo := by simpa using hnw
    cases ov
    · have hce : CanEnd bl wo i := by
        rcases hon.1 rfl with h | ⟨t, he, ho⟩
        · exact canEnd_kind hw h
        · exact canEnd_step hw he (hsound' t ho)
      repeat (first | refine g_op rfl ?_ | refine g_then ?_ | refine g_nil ?_ | refine g_region ?_ | refine g_opS rfl ?_ | refine g_open ?_ | refine g_inBlock ?_ | refine g_condT ?_ | refine g_add rfl (by omega) (by omega) ?_ | refine g_storeV ?_)
      have hus := unseen_set hov
      refine g_next (i + 1, true, out'.set i true) ⟨hlt, by simpa using hol', fun y hy => ?_, by simp, fun _ => ?_⟩ (by simp only; omega) (by repeat (first | exact trivial | refine ⟨rfl, ?_⟩)) (List.Sublist.cons _ (List.Sublist.refl _))
      · simp only [List.getElem?_set] at hy
        by_cases hyi : i = y
        · subst hyi; exact hce
        · rw [if_neg hyi] at hy
          exact hsound' y hy
      · cases hm : more'
        · have := (hno hm).1
          subst this
          simp only; omega
        · have := hyes hm
          simp only; omega
    · repeat (first | refine g_op rfl ?_ | refine g_then ?_ | refine g_nil ?_ | refine g_region ?_ | refine g_opS rfl ?_ | refine g_open ?_ | refine g_inBlock ?_ | refine g_skip ?_ | refine g_condF ?_ | refine g_add rfl (by omega) (by omega) ?_)
      exact g_next (i + 1, more', out') (stay fun _ _ => rfl) (by simp only; omega) (by repeat (first | exact trivial | refine ⟨rfl, ?_⟩)) (List.Sublist.cons _ (List.Sublist.refl _))
  · have hge : i = n := by have := h1; simp at this; omega
    repeat (first | refine g_then ?_ | refine g_inBlock ?_ | refine g_exit ?_ | refine g_thenExit ?_ | refine g_exitHere ?_)
    refine g_next (more', out') ⟨hol', hsound', fun hm y hy hw hc => ?_⟩ ?_ (by repeat (first | exact trivial | refine ⟨rfl, ?_⟩)) (List.Sublist.refl _)
    · obtain ⟨e, hall⟩ := hno hm
      simp only at e hc ⊢
      rw [e] at hc ⊢
      exact hall y (by omega) hw hc
    · cases hm : more'
      · have := (hno hm).1
        subst this
        simp
      · have := hyes hm
        simp only
        simp; omega
end Go.Proofs.YtebajiafdkokjaaDoor

/- slices.Backward, graph.Post and its closure: what each does. -/
namespace Go.Proofs.YtebajiafdkokjaaDoor
open Go Go.RowKit
attribute [local irreducible] wpListIn Code.wpIn Exit.then Exit.inBlock bodyPost wpQuiet wpAnyIn bodyPostM
set_option maxHeartbeats 4000000

theorem backward_c (v : Value) (hv : ∃ a n c, v = .slice a n c) (w0 : World) : Ret Tryd.prog 83 [v] w0 fun u w' => ∃ p : Nat, u = .func (.func 117) #[] #[.pointer (some ⟨p, 0, none⟩)] ∧ Wd NoS w0 [Ent.box p [v] 27] w' ∧ True := by
  obtain ⟨a, n, c, rfl⟩ := hv
  refine ret_enter Tryd.func83 rfl Tryd.ntmps83 rfl (Wd.nil NoS w0) ?_
  repeat (first | refine g_op rfl ?_ | refine g_then ?_ | refine g_nil ?_ | refine g_region ?_ | refine g_seq ?_ | refine g_opS rfl ?_ | refine g_box rfl fun _ _ => ?_ | refine g_ret ?_)
  exact g_ret1 rfl fun w hw => ⟨_, rfl, hw, trivial⟩
theorem backStops {α : Type} {enc : α → Int × Int} {K : Nat → Prop} {w0 w : World} {Bs n c : Nat} {a : Option Addr} {zs : List Int} {xs : List α} (hsl : SlAt w0 (.slice a n c) 1 zs IntV) (hlen : zs.length ≤ 100000) (hK : ∀ b, b < w0.heap.size → K b) (hKB : K Bs) (hw : Chg NoS w0 w)
    (hB : w.cell? ⟨Bs, 0, none⟩ = some (.slice a n c)) (hxs : xs.map enc = downTo zs zs.length) :
    SeqStopsK (FW none) 4 Tryd.prog 117 #[.pointer (some ⟨Bs, 0, none⟩)] (fun x => #[.int .i64 (enc x).1, .int .i64 (enc x).2]) (KeepB K) (fun ys => ys = xs) (fun pre => pre <+: xs) xs.length w := by
  intro l J Jx W hW _ _ hY h0
  have hxl : xs.length = zs.length := by have := congrArg List.length hxs; rwa [List.length_map, downTo_length] at this
  obtain ⟨a', n', c', b, o, hv, hn, _, _, _, ha, hel⟩ := hsl
  simp only [Value.slice.injEq] at hv
  obtain ⟨rfl, rfl, rfl⟩ := hv
  subst hn
  have hcell : ∀ j, j < zs.length → w0.cell? ⟨b, o + j, none⟩ = some (.int .i64 (zs[j]?.getD 0)) := fun j hj => by
    obtain ⟨cs, hc, rfl, _⟩ := hel j _ (List.getElem?_eq_getElem hj)
    have := hc 0 _ rfl
    simpa [hj] using this
  refine backInt1_in 4 (by omega) enc l Bs b o c K zs xs hxs hlen (fun hne => hK b ?_) hKB J Jx a (fun hne => ha hne) (fun pre x W1 hJ hl => hY pre x W1 hJ (by omega)) W ((hW.cell (p := ⟨Bs, 0, none⟩) (World.block_lt_of_cell? w _ hB)).trans hB) (fun j hj => ?_) h0
  · exact World.block_lt_of_cell? w0 _ (hcell 0 (List.length_pos_iff.2 hne))
  · have h1 := cell_keep hw (hcell j hj)
    exact (hW.cell (World.block_lt_of_cell? w _ h1)).trans h1
/-- rounds over such pairs -/
abbrev BackA (n : Nat) : Type := { p : Int × Nat // p.2 < n }
def BackA.enc {n : Nat} (x : BackA n) : Int × Int := (x.1.1, (x.1.2 : Int))
theorem backA_ex {n : Nat} : ∀ l : List (Int × Int), (∀ p ∈ l, 0 ≤ p.2 ∧ p.2 < n) → ∃ xs : List (BackA n), xs.map BackA.enc = l
  | [], _ => ⟨[], rfl⟩
  | p :: l, h => by
    obtain ⟨xs, hxs⟩ := backA_ex l fun q hq => h q (List.mem_cons_of_mem _ hq)
    have hp := h p (by simp)
    refine ⟨⟨(p.1, p.2.toNat), by simp only; omega⟩ :: xs, ?_⟩
    rw [List.map_cons, hxs]
    simp only [BackA.enc]
    congr 1
    rw [show ((p.2.toNat : Nat) : Int) = p.2 by omega]
theorem downTo_snd (zs : List Int) : (downTo zs zs.length).map (·.2) = zs.reverse := by
  apply List.ext_getElem?
  intro i
  rw [downTo, List.map_map, List.getElem?_map]
  by_cases hi : i < zs.length
  · rw [List.getElem?_range hi, List.getElem?_reverse hi]
    have : zs.length - 1 - i < zs.length := by omega
    simp [this]
  · rw [List.getElem?_eq_none (by rw [List.length_range]; omega), List.getElem?_eq_none (by rw [List.length_reverse]; omega)]; rfl
theorem downTo_mem {zs : List Int} {p : Int × Int} (h : p ∈ downTo zs zs.length) : p.2 ∈ zs := by
  have : p.2 ∈ (downTo zs zs.length).map (·.2) := List.mem_map.2 ⟨p, h, rfl⟩
  rw [downTo_snd] at this
  simpa using this

/-- what 'visit' is handed: what has been seen and left -/
def visE (n : Nat) (pl sb : Nat) (s : (List Bool × List Nat) × (Option Addr × Nat)) : List Ent :=
  [Ent.box pl [.slice s.2.1 s.1.2.length s.2.2] 27, Ent.vec s.2.1 s.1.2.length s.2.2 3 1 (s.1.2.map intN), Ent.vec (some ⟨sb, 0, none⟩) n n 4 1 (s.1.1.map .bool)]
def visF (nm pa re : Value) (ba : Option Addr) (n bc ps pf pv pl sb : Nat) : List Ent := [Ent.box ps [.slice (some ⟨sb, 0, none⟩) n n] 38, Ent.box pf [nm, pa, re, .slice ba n bc] 35, Ent.box pv [.func (.func 82) #[] #[.pointer (some ⟨ps, 0, none⟩), .pointer (some ⟨pf, 0, none⟩), .pointer (some ⟨pv, 0, none⟩), .pointer (some ⟨pl, 0, none⟩)]] 118]
theorem visit_c (nm pa re : Value) (bl : List LBlock) (ba : Option Addr) (n bc ps pf pv pl sb : Nat) (wz : World) (hbs : SlAt wz (.slice ba n bc) 6 bl BlockV) (hlen : bl.length ≤ 100) (hok : GoodB bl) :
    ∀ (f b : Nat) (s : (List Bool × List Nat) × (Option Addr × Nat)), s.1.1.length = bl.length → s.1.1[b]? = some false → unseen s.1.1 ≤ f → s.1.2.length + unseen s.1.1 ≤ n → ∀ w, Wd NoS wz (visE n pl sb s ++ visF nm pa re ba n bc ps pf pv pl sb) w →
    Ret Tryd.prog 82 [.int .i64 b, .pointer (some ⟨ps, 0, none⟩), .pointer (some ⟨pf, 0, none⟩), .pointer (some ⟨pv, 0, none⟩), .pointer (some ⟨pl, 0, none⟩)] w fun u w' => ∃ z : Option Addr × Nat, u = .tuple #[] ∧ Wd (fps (visE n pl sb s ++ visF nm pa re ba n bc ps pf pv pl sb)) w (visE n pl sb (dfs bl f b s.1, z) ++ visF nm pa re ba n bc ps pf pv pl sb) w' ∧ True := by
  have hbs0 := hbs
  obtain ⟨ba, n, bc, bb, bo', hv, hn, hnc, hnb, hbc, hba, hel⟩ := hbs
  simp only [Value.slice.injEq] at hv
  obtain ⟨rfl, rfl, rfl⟩ := hv
  intro f
  induction f with
  | zero => intro b s _ hb hu; have := unseen_pos hb; omega
  | succ f ih =>
    rintro b ⟨⟨seen, left⟩, la, lc⟩ hl hb hu hle w hw
    simp only at hl hb hu hle
    have hus := unseen_set hb
    have hbn : b < n := by have := (List.getElem?_eq_some_iff.1 hb).1; omega
    obtain ⟨B, hB⟩ := get_lt hn hbn
    have had : AddrIs ba bb bo' := ⟨hba (ne_of_get hB)⟩
    have hli : LtIs b n := ⟨hbn⟩
    obtain ⟨cs, hcs, pv', lv, tv, rfl, _, _, hphis, hlist, ht⟩ := hel b B hB
    have ht0 := ht
    obtain ⟨ta, tn, tc, tb, to', rfl, htn, htnc, htnb, htc, hta, htel⟩ := ht
    have hci : CellsIs wz bb (bo' + b * 6) _ := ⟨hcs⟩
    have hBok := hok B (List.mem_of_getElem? hB)
    have hea : ElAt seen b false := ⟨hb⟩
    have hz := hw.chg
    refine ret_enterM (w0 := wz) (S := NoS) Tryd.func82 rfl Tryd.ntmps82 rfl hw.withRest ?_
    generalize hrest : Ent.rest (restOf wz.heap.size w (visE n pl sb ((seen, left), la, lc) ++ visF nm pa re ba n bc ps pf pv pl sb)) w = RS
    simp only [visE, visF, List.cons_append, List.nil_append]
    repeat (first | refine g_op rfl ?_ | refine g_then ?_ | refine g_nil ?_ | refine g_region ?_ | refine g_seq ?_ | refine g_storeV ?_)
    refine g_callE (val := fun p : Nat => .func (.func 117) #[] #[.pointer (some ⟨p, 0, none⟩)]) (E := fun p => [Ent.box p [.slice ta tn tc] 27]) (φ := fun _ => True) rfl (fun w hw => backward_c _ ⟨_, _, _, rfl⟩ w) fun Bs _ => ?_
    simp only [List.cons_append, List.nil_append]
    repeat (first | refine g_then ?_ | refine g_nil ?_ | refine g_block ?_)
    obtain ⟨xs, hxs⟩ := backA_ex (n := n) (downTo B.to B.to.length) fun p hp => by have := hBok.2 p.2 (downTo_mem hp); omega
    refine g_fix (L' := [(18, .func (.func 117) #[] #[.pointer (some ⟨Bs, 0, none⟩)]), (0, .int .i64 b), (1, .pointer (some ⟨ps, 0, none⟩)), (2, .pointer (some ⟨pf, 0, none⟩)), (3, .pointer (some ⟨pv, 0, none⟩)), (4, .pointer (some ⟨pl, 0, none⟩))]) (by repeat (first | exact trivial | refine ⟨rfl, ?_⟩)) (List.Sublist.refl _) ?_
    refine g_sel [2, 3, 4, 5, 6, 7, 0, 1] (by decide) ?_
    have hvt : visE n pl sb ((seen.set b true, left), (la, lc)) = [Ent.box pl [.slice la left.length lc] 27, Ent.vec la left.length lc 3 1 (left.map intN), Ent.vec (some ⟨sb, 0, none⟩) n n 4 1 ((seen.set b true).map .bool)] := rfl
    refine g_range (α := BackA n) (gf := 117) (lb := [.pointer (some ⟨Bs, 0, none⟩)]) [Ent.box ps [.slice (some ⟨sb, 0, none⟩) n n] 38, Ent.box pf [nm, pa, re, .slice ba n bc] 35, Ent.box pv [.func (.func 82) #[] #[.pointer (some ⟨ps, 0, none⟩), .pointer (some ⟨pf, 0, none⟩), .pointer (some ⟨pv, 0, none⟩), .pointer (some ⟨pl, 0, none⟩)]] 118, Ent.box Bs [.slice ta tn tc] 27, RS] (visE n pl sb) (fun s => ⟨by intro e he; simp only [visE, List.mem_cons, List.not_mem_nil, or_false] at he; rcases he with rfl | rfl | rfl <;> infer_instance⟩) xs (encs := fun x => #[.int .i64 (BackA.enc x).1, .int .i64 (BackA.enc x).2]) (Bs := Bs) (bcs := [.slice ta tn tc]) (bt := 27) (by simp)
      (fun w hw => backStops (enc := BackA.enc) ht0 (by omega) (fun b hb => .inl ⟨hb, fun h => h⟩) (.inr rfl) hw.chg (hw.boxCells Bs 0 _ rfl) hxs)
      (fun pre s => s.1 = (pre.map fun x => x.1.2).foldl (vstep bl f) (seen.set b true, left)) ((seen.set b true, left), (la, lc)) rfl (List.Sublist.refl _) (fun _ => rfl)
      (fun x => [(20, .int .i64 (x.1.2 : Int)), (19, .int .i64 x.1.1), (0, .int .i64 b), (1, .pointer (some ⟨ps, 0, none⟩)), (2, .pointer (some ⟨pf, 0, none⟩)), (3, .pointer (some ⟨pv, 0, none⟩)), (4, .pointer (some ⟨pl, 0, none⟩))]) (fun x => [(7, .int .i64 (x.1.2 : Int)), (0, .int .i64 b), (1, .pointer (some ⟨ps, 0, none⟩)), (2, .pointer (some ⟨pf, 0, none⟩)), (3, .pointer (some ⟨pv, 0, none⟩)), (4, .pointer (some ⟨pl, 0, none⟩))]) (fun x a h => ?_) (fun l x s R => ?_) (fun l pre x s R hI hlt => ?_) fun D s hD hI => ?_
    · have h2 := ((h.to (L' := [(0, .int .i64 b), (1, .pointer (some ⟨ps, 0, none⟩)), (2, .pointer (some ⟨pf, 0, none⟩)), (3, .pointer (some ⟨pv, 0, none⟩)), (4, .pointer (some ⟨pl, 0, none⟩))]) (by repeat (first | exact trivial | refine ⟨rfl, ?_⟩))).putOk (d := 19) rfl (.int .i64 x.1.1)).putOk (d := 20) rfl (.int .i64 (x.1.2 : Int))
      have e : (#[19, 20].zip #[Value.int .i64 (BackA.enc x).1, Value.int .i64 (BackA.enc x).2]).foldl (fun (t : Array Value) (q : Tmp × Value) => t.setIfInBounds q.1 q.2) a.tmps = (a.tmps.setIfInBounds 19 (.int .i64 x.1.1)).setIfInBounds 20 (.int .i64 (x.1.2 : Int)) := by simp [BackA.enc]
      refine ⟨Eq.trans (congrArg Array.size e) h2.size, rfl, fun p hp => ?_⟩
      exact Eq.trans (congrArg (fun t : Array Value => t[p.1]?) e) (h2.slot p hp)
    · repeat (first | refine g_op rfl ?_ | refine g_then ?_ | refine g_nil ?_ | refine g_region ?_)
      exact g_done (by repeat (first | exact trivial | refine ⟨rfl, ?_⟩)) (List.Sublist.refl _)
    · obtain ⟨⟨i0, t⟩, htn'⟩ := x
      obtain ⟨⟨sn, lf⟩, la', lc'⟩ := s
      simp only at hI htn'
      have hg := vsteps_grows bl f (seen.set b true, left) (pre.map fun x => x.1.2)
      rw [← hI] at hg
      have hsl : sn.length = n := by have := hg.1; simp at this; omega
      have hg3 := hg.2.2.1
      have hg4 := hg.2.2.2
      simp only at hg3 hg4
      obtain ⟨sv, hsv⟩ : ∃ sv, sn[t]? = some sv := ⟨_, List.getElem?_eq_getElem (by omega)⟩
      have hes : ElAt sn t sv := ⟨hsv⟩
      have hlt2 : LtIs t n := ⟨htn'⟩
      have hstep : ((pre ++ [(⟨(i0, t), htn'⟩ : BackA n)]).map fun x : BackA n => x.1.2).foldl (vstep bl f) (seen.set b true, left) = vstep bl f (sn, lf) t := by
        rw [List.map_append, List.foldl_append, ← hI]; rfl
      rw [hstep]
      simp only [visE, List.cons_append, List.nil_append]
      cases sv
      · have hv : vstep bl f (sn, lf) t = dfs bl f t (sn, lf) := by unfold vstep; simp [hsv]
        rw [hv]
        repeat (first | refine g_op rfl ?_ | refine g_then ?_ | refine g_nil ?_ | refine g_region ?_ | refine g_seq ?_ | refine g_block ?_ | refine g_condT ?_)
        refine g_sel [1, 2, 3, 4, 5, 6, 0, 7, 8] (by decide) ?_
        refine g_eqH (H1 := (visE n pl sb ((sn, lf), la', lc') ++ visF nm pa re ba n bc ps pf pv pl sb) ++ [R, Ent.box Bs [.slice ta tn tc] 27, RS]) rfl ?_
        refine g_callFS (val := fun _ : Option Addr × Nat => .tuple #[]) (E := fun z => visE n pl sb (dfs bl f t (sn, lf), z) ++ visF nm pa re ba n bc ps pf pv pl sb) (φ := fun _ => True) (us := []) (vs := [.int .i64 (t : Int)]) (xs := [.pointer (some ⟨ps, 0, none⟩), .pointer (some ⟨pf, 0, none⟩), .pointer (some ⟨pv, 0, none⟩), .pointer (some ⟨pl, 0, none⟩)]) rfl
          (fun w hw => ih t ((sn, lf), la', lc') (by simp only; omega) hsv (by simp only; omega) (by simp only; omega) w (hw.sub (List.sublist_append_left _ _))) fun z _ => ?_
        simp only [visE, visF, List.cons_append, List.nil_append]
        repeat (first | refine g_then ?_ | refine g_nil ?_ | refine g_inBlock ?_)
        refine g_sel [6, 0, 1, 2, 3, 4, 5, 7, 8] (by decide) ?_
        exact g_rnd (dfs bl f t (sn, lf), z) rfl (List.Sublist.refl _)
      · have hv : vstep bl f (sn, lf) t = (sn, lf) := by unfold vstep; simp [hsv]
        rw [hv]
        repeat (first | refine g_op rfl ?_ | refine g_then ?_ | refine g_nil ?_ | refine g_region ?_ | refine g_seq ?_ | refine g_inBlock ?_ | refine g_block ?_ | refine g_skip ?_ | refine g_condF ?_)
        exact g_rnd ((sn, lf), la', lc') rfl (List.Sublist.refl _)
    · obtain ⟨⟨sn, lf⟩, la', lc'⟩ := s
      simp only at hI
      have hxm : (xs.map fun x => x.1.2) = (toOf bl b).reverse.map Int.toNat := by
        have h1 := congrArg (List.map (fun p : Int × Int => p.2.toNat)) hxs
        rw [List.map_map] at h1
        rw [show (xs.map fun x => x.1.2) = xs.map ((fun p : Int × Int => p.2.toNat) ∘ BackA.enc) from List.map_congr_left fun x _ => by simp [BackA.enc], h1, toOf_get hB, ← downTo_snd, List.map_map]
        rfl
      rw [hxm] at hI
      have hd : dfs bl (f + 1) b (seen, left) = (sn, lf ++ [b]) := by rw [dfs_succ]; simp only; rw [← hI]
      have hg := vsteps_grows bl f (seen.set b true, left) ((toOf bl b).reverse.map Int.toNat)
      rw [← hI] at hg
      have hg4 := hg.2.2.2
      simp only at hg4
      simp only [visE, List.cons_append, List.nil_append]
      repeat (first | refine g_op rfl ?_ | refine g_then ?_ | refine g_region ?_ | refine g_inBlock ?_ | refine g_build1 rfl rfl fun _ _ => ?_)
      refine g_append rfl rfl (by omega) (by omega) fun a' c' => ?_
      rw [show lf.map intN ++ [.int .i64 (b : Int)] = (lf ++ [b]).map intN by simp [intN], show lf.length + 1 = (lf ++ [b]).length by simp]
      repeat (first | refine g_nil ?_ | refine g_store ?_)
      refine g_sel [1, 9, 2, 3, 4, 5, 6, 7] (by decide) ?_
      refine g_endM0 rfl hD fun w' hw' => ⟨(a', c'), rfl, ?_, trivial⟩
      simp only
      rw [hd]
      rw [← hrest] at hw'
      exact wd_rest hz hw'
theorem graphPost_c (nm pa re : Value) (bl : List LBlock) (bs : Value) (w0 : World) (hbs : SlAt w0 bs 6 bl BlockV) (hlen : bl.length ≤ 100) (hok : GoodB bl) (hpos : 0 < bl.length) :
    Ret Tryd.prog 47 [.agg #[nm, pa, re, bs]] w0 fun u w' => ∃ x : Option Addr × Nat, u = .slice x.1 (postL bl).length x.2 ∧ Wd NoS w0 [Ent.vec x.1 (postL bl).length x.2 3 1 ((postL bl).map intN)] w' ∧ True := by
  have hbs0 := hbs
  obtain ⟨ba, n, bc, bb, bo', rfl, hn, hnc, hnb, hbc, hba, hel⟩ := hbs
  refine ret_enter Tryd.func47 rfl Tryd.ntmps47 rfl (Wd.nil NoS w0) ?_
  repeat (first | refine g_op rfl ?_ | refine g_then ?_ | refine g_nil ?_ | refine g_region ?_ | refine g_seq ?_ | refine g_store ?_ | refine g_box rfl fun _ _ => ?_ | refine g_alloc rfl fun _ _ => ?_ | refine g_make rfl (by omega) (by omega) fun _ _ => ?_)
  rename_i pf _ pl _ sb _ ps _ pv _
  rw [show List.replicate n (Value.bool false) = (List.replicate n false).map Value.bool by simp]
  refine g_nilVec 3 1 ?_
  refine g_sel [4, 0, 3, 2, 5, 1] (by decide) ?_
  refine g_eqH (H1 := (visE n pl sb ((List.replicate n false, []), (none, 0)) ++ visF nm pa re ba n bc ps pf pv pl sb) ++ []) rfl ?_
  refine g_callFS (val := fun _ : Option Addr × Nat => .tuple #[]) (E := fun z => visE n pl sb (dfs bl n 0 (List.replicate n false, []), z) ++ visF nm pa re ba n bc ps pf pv pl sb) (φ := fun _ => True) (us := []) (vs := [.int .i64 ((0 : Nat) : Int)]) (xs := [.pointer (some ⟨ps, 0, none⟩), .pointer (some ⟨pf, 0, none⟩), .pointer (some ⟨pv, 0, none⟩), .pointer (some ⟨pl, 0, none⟩)]) rfl
    (fun w hw => visit_c nm pa re bl ba n bc ps pf pv pl sb w0 hbs0 hlen hok n 0 ((List.replicate n false, []), (none, 0)) (by simpa using hn) (by simp only; rw [List.getElem?_replicate, if_pos (by omega)]) (by simp only [unseen_all]; exact Nat.le_refl _) (by simp only [unseen_all]; simp) w (hw.sub (List.sublist_append_left _ _))) fun z _ => ?_
  obtain ⟨za, zc⟩ := z
  have hp : (dfs bl n 0 (List.replicate n false, [])).2 = postL bl := by unfold postL; rw [← hn]
  generalize dfs bl n 0 (List.replicate n false, []) = d at hp
  obtain ⟨d1, d2⟩ := d
  simp only at hp
  subst hp
  simp only [visE, visF, List.cons_append, List.nil_append]
  repeat (first | refine g_op rfl ?_ | refine g_then ?_ | refine g_nil ?_ | refine g_region ?_ | refine g_seq ?_ | refine g_opS rfl ?_ | refine g_ret ?_)
  exact g_ret1 rfl fun w hw => ⟨(za, zc), rfl, hw.sel [1] (by decide), trivial⟩
end Go.Proofs.YtebajiafdkokjaaDoor

/- A region that draws its order, reads, and ends in one store: what is read lies in pieces that the store leaves alone. One walk serves every order. -/
namespace Go.Proofs.YtebajiafdkokjaaDoor
open Go Go.RowKit

section
variable {P : Program} {N : Nat} {ds : List Deferred} {S : Nat → Prop} {w0 : World} {L L' : List (Nat × Value)} {H H' Hr : List Ent} {Q : Exit → Act → World → Prop} {x y : Operand} {M : Act → World → Prop} {l : List Oper} {fuel : Nat} {listed : Array Bool}

theorem g_drawH {id n : Nat} [hl : LenO l n] (Hr : List Ent) (hm : P.follows .mixedOrders = true) (_hH : Hr.Sublist H)
    (h : G N ds S w0 L H (wpAnyH P .any l.toArray (OnlyN (Q .normal)) (Wd S w0 Hr) n (Array.replicate n false))) : G N ds S w0 L H (Code.wpIn (FW none) 0 P (Code.region id l.toArray true) Q) := fun a w hS => by
  refine wpIn_wide.2 (wp_region_any hm ?_)
  have h1 := wpAny_of_held _ _ _ _ (h a { w with drawn := w.drawn + 1 } ⟨hS.fr, hS.wd.same rfl rfl rfl rfl⟩)
  rw [← hl.eq] at h1
  have key : ∀ (fuel : Nat) (listed : Array Bool) (a : Act) (w : World), wpAny P .any l.toArray (OnlyN (Q .normal)) fuel listed a w → wpAny P .any l.toArray Q fuel listed a w := by
    intro fuel
    induction fuel with
    | zero => exact fun listed a w h => ⟨h.1, h.2⟩
    | succ fuel ih =>
      intro listed a w h
      refine ⟨fun e => h.1 e, fun i hi => ?_⟩
      have h2 := h.2 i hi
      unfold wpOp at h2 ⊢
      split
      · rename_i ho
        simp only [ho] at h2
        exact ih _ _ _ h2
      · rename_i o ho
        simp only [ho] at h2
        split
        · rename_i hw
          rw [if_pos hw] at h2
          rcases h2 with h3 | ⟨_, a', w', h3⟩
          · left
            unfold Oper.wp at h3 ⊢
            revert h3
            generalize (execOp a.eval o).run P w = r
            intro h3
            cases r with
            | ok nx w1 =>
              cases nx with
              | value v => exact ih _ _ _ h3
              | skip => exact ih _ _ _ h3
              | defer d => exact ih _ _ _ h3
              | enter f args =>
                refine Calls.mono h3 fun e w2 hh => ?_
                cases e with
                | returned v => exact ih _ _ _ hh
                | panicked c => exact (hh : False).elim
                | outgrown => exact (Exists.elim hh fun _ h => Exists.elim h fun _ h => (h : False).elim)
              | row r args => exact Rows.mono h3 fun v w2 hh => ih _ _ _ hh
              | _ => exact h3
            | halt x w1 => cases x <;> exact (h3 : False).elim
          · exact (h3 : False).elim
        · rename_i hw
          rw [if_neg hw] at h2
          exact ih _ _ _ h2
  have := key _ _ _ _ h1
  simpa using this
theorem h_take {d ty : Nat} (i : Nat) {pos : String} {aft : Array Go.Edge} {op : Op} {v : Value} [ho : ListAt l i ⟨some d, op, ty, pos, aft, none⟩] [h : RunsC P N ds S w0 L Hr op v] (hd : okPut d N L = true)
    (hr : ((Region.noSelect l.toArray && Region.free .any l.toArray listed i) && (Region.ready .any l.toArray listed).contains i) = true) (hH : Hr.Sublist H)
    (k : G N ds S w0 ((d, v) :: L) H (wpAnyH P .any l.toArray (OnlyN M) (Wd S w0 Hr) fuel (listed.setIfInBounds i true))) : G N ds S w0 L H (wpAnyH P .any l.toArray (OnlyN M) (Wd S w0 Hr) (fuel + 1) listed) := fun a w hS => by
  simp only [Bool.and_eq_true] at hr
  exact wpAnyH_take (i := i) (oi := ⟨some d, op, ty, pos, aft, none⟩) (v := v) (by simpa using ho.at') hr.1.1 hr.1.2 hr.2 (fun c a w hh => hh) (.inl ⟨rfl, fun w hw => h.run _ _ _ _ _ a w hS.fr hw⟩) (hS.wd.sub hH) (k _ _ ⟨hS.fr.putOk hd v, hS.wd⟩)
theorem h_takeG {d ty j t : Nat} (i : Nat) {want : Bool} {pos : String} {aft : Array Go.Edge} {op : Op} {v : Value} [ho : ListAt l i ⟨some d, op, ty, pos, aft, some (j, want)⟩] [hj : DstOf l.toArray j t] [hb : SlotIs L t (.bool want)] [h : RunsC P N ds S w0 L Hr op v] (hd : okPut d N L = true)
    (hr : ((Region.noSelect l.toArray && Region.free .any l.toArray listed i) && (Region.ready .any l.toArray listed).contains i) = true) (hH : Hr.Sublist H)
    (k : G N ds S w0 ((d, v) :: L) H (wpAnyH P .any l.toArray (OnlyN M) (Wd S w0 Hr) fuel (listed.setIfInBounds i true))) : G N ds S w0 L H (wpAnyH P .any l.toArray (OnlyN M) (Wd S w0 Hr) (fuel + 1) listed) := fun a w hS => by
  simp only [Bool.and_eq_true] at hr
  refine wpAnyH_take (i := i) (oi := ⟨some d, op, ty, pos, aft, some (j, want)⟩) (v := v) (by simpa using ho.at') hr.1.1 hr.1.2 hr.2 (fun c a w hh => hh) (.inl ⟨?_, fun w hw => h.run _ _ _ _ _ a w hS.fr hw⟩) (hS.wd.sub hH) (k _ _ ⟨hS.fr.putOk hd v, hS.wd⟩)
  simp only [Region.wanted, hS.fr.yield (ops := l.toArray) (j := j) (b := want)]
  simp
theorem h_takeP {d ty j t : Nat} (i : Nat) {want b : Bool} {pos : String} {aft : Array Go.Edge} {op : Op} [ho : ListAt l i ⟨some d, op, ty, pos, aft, some (j, want)⟩] [hj : DstOf l.toArray j t] [hn : NotB want b] [hb : SlotIs L t (.bool b)] (hd : okPut d N L = true)
    (hr : ((Region.noSelect l.toArray && Region.free .any l.toArray listed i) && (Region.ready .any l.toArray listed).contains i) = true) (hH : Hr.Sublist H)
    (k : G N ds S w0 ((d, undef) :: L) H (wpAnyH P .any l.toArray (OnlyN M) (Wd S w0 Hr) fuel (listed.setIfInBounds i true))) : G N ds S w0 L H (wpAnyH P .any l.toArray (OnlyN M) (Wd S w0 Hr) (fuel + 1) listed) := fun a w hS => by
  simp only [Bool.and_eq_true] at hr
  refine wpAnyH_take (i := i) (oi := ⟨some d, op, ty, pos, aft, some (j, want)⟩) (v := undef) (by simpa using ho.at') hr.1.1 hr.1.2 hr.2 (fun c a w hh => hh) (.inr ⟨?_, rfl⟩) (hS.wd.sub hH) (k _ _ ⟨hS.fr.putOk hd undef, hS.wd⟩)
  simp only [Region.wanted, hS.fr.yield (ops := l.toArray) (j := j) (b := b)]
  exact hn.ne
/-- the one operation that is left: a store into a slice of the call's own -/
theorem h_storeV {ty T b off k o j n c e s : Nat} (i : Nat) [h : OneCell P T] {xs xs' : List Value} {v : Value} {pos : String} {aft : Array Go.Edge} [ho : ListAt l i ⟨none, .store T x y, ty, pos, aft, none⟩]
    [hx : Ev L x (.pointer (some ⟨b, off, none⟩))] [hy : Ev L y v] [h1 : OneV v] [hb : OwnAt H b off k o j n c e s xs] [hu : XSet xs j v xs'] [hH : SetAt H k (Ent.vec (some ⟨b, o, none⟩) n c e s xs') H']
    (hr : decide (Region.ready .any l.toArray listed = [i]) = true) (hr2 : (Region.ready .any l.toArray (listed.setIfInBounds i true)).isEmpty = true) (hHr : Hr.Sublist H')
    (kk : G N ds S w0 L H' M) : G N ds S w0 L H (wpAnyH P .any l.toArray (OnlyN M) (Wd S w0 Hr) (fuel + 1) listed) := by
  intro a w hS
  obtain ⟨_, _, _, pre, sp, hpre, _, hbx⟩ := hS.wd.vecAt hb.at'
  have e1 := hb.eq
  subst e1
  have hlt := hu.lt
  have hc := hS.wd.vecCell hb.at' (List.getElem?_eq_getElem hlt)
  have hrun := run_storeOne (P := P) (T := T) h1.one hc (by simp [World.frozen?, hbx])
  have hw' := hS.wd.setVec v hb.at' hlt
  rw [hu.eq, hH.set'] at hw'
  refine wpAnyH_all (of_decide_eq_true hr) (by simp) fun i' hi' => ?_
  simp only [List.mem_singleton] at hi'
  subst hi'
  unfold wpOp
  rw [show l.toArray[i']? = some ⟨none, .store T x y, ty, pos, aft, none⟩ by simpa using ho.at']
  simp only
  have hwt : Region.wanted (⟨none, .store T x y, ty, pos, aft, none⟩ : Oper) (yielded l.toArray a.tmps) = true := rfl
  rw [if_pos hwt]
  left
  unfold Oper.wp
  rw [show (execOp a.eval ⟨none, .store T x y, ty, pos, aft, none⟩).run P w = .ok .skip (w.setCell ⟨b, o + j, none⟩ v) by simp [execOp, hx.eq _ _ _ hS.fr, hy.eq _ _ _ hS.fr, hrun]]
  refine ⟨hw'.sub hHr, wpAnyH_done (List.isEmpty_iff.1 hr2) ?_ _⟩
  exact kk _ _ ⟨hS.fr, hw'⟩
end
end Go.Proofs.YtebajiafdkokjaaDoor

/- turneryref3.Ends, dom.sure, turneryref3.SureTable: what each returns. -/
namespace Go.Proofs.YtebajiafdkokjaaDoor
open Go Go.RowKit
attribute [local irreducible] wpListIn Code.wpIn Exit.then Exit.inBlock bodyPost wpQuiet wpAnyIn
set_option maxHeartbeats 2000000

/-- a place that a packed piece tells of -/
class PackCell (F : World → Prop) (b off : Nat) (v : outParam Value) : Prop where
  eq : ∀ w, F w → w.cell? ⟨b, off, none⟩ = some v
instance (fp : Nat → Prop) (F : World → Prop) (b off : Nat) (v : Value) (H : List Ent) [h : PackCell F b off v] : OwnCell (⟨fp, F⟩ :: H) b off v := ⟨fun _ _ w hw => h.eq w (hw.get (k := 0) rfl)⟩

open Classical in
theorem refEnds_c (nm pa re : Value) (bl : List LBlock) (bs : Value) (b : Nat) (wo : Int) (w0 : World) (hbs : SlAt w0 bs 6 bl BlockV) (hlen : bl.length ≤ 100) (hok : GoodB bl) (hb : b < bl.length) :
    RetV Tryd.prog 87 [.agg #[nm, pa, re, bs], .int .i64 b, .int .i64 wo] w0 (.bool (decide (CanEnd bl wo b))) := by
  have hbs0 := hbs
  obtain ⟨ba, n, bc, bb, bo', rfl, hn, hnc, hnb, hbc, hba, hel⟩ := hbs
  refine ret_enter Tryd.func87 rfl Tryd.ntmps87 rfl (Wd.nil NoS w0) ?_
  repeat (first | refine g_op rfl ?_ | refine g_then ?_ | refine g_nil ?_ | refine g_region ?_ | refine g_seq ?_ | refine g_box rfl fun _ _ => ?_)
  rename_i p3 _
  refine g_callE (val := fun x : Option Addr × Nat × List Nat => .slice x.1 x.2.2.length x.2.1) (E := fun x => [Ent.vec x.1 x.2.2.length x.2.1 3 1 (x.2.2.map intN)]) (φ := fun x => FromR bl wo b x.2.2) rfl (fun w hw => refFrom_c _ _ _ bl _ b wo w (hbs0.keep keeps_block hw.chg) hlen hok hb) fun x hx => ?_
  obtain ⟨xa, xc, l⟩ := x
  simp only [List.cons_append, List.nil_append] at hx ⊢
  have hll : l.length ≤ bl.length := nodup_len _ _ hx.1 hx.2.1
  repeat (first | refine g_op rfl ?_ | refine g_then ?_ | refine g_nil ?_ | refine g_region ?_ | refine g_seq ?_ | refine g_block ?_)
  refine g_loop (fun (x : Nat × Option Addr) => x.1 ≤ l.length ∧ ∀ j y, j < x.1 → l[j]? = some y → kindOf bl y ≠ 1) (fun x => [(8, .int .i64 x.1), (7, .slice x.2 l.length xc), (3, .pointer (some ⟨p3, 0, none⟩))])
    (fun x => [Ent.vec x.2 l.length xc 3 1 (l.map intN), Ent.box p3 [nm, pa, re, .slice ba n bc] 35]) (fun x => l.length - x.1) (0, xa) ⟨Nat.zero_le _, by simp⟩ (g_done (by repeat (first | exact trivial | refine ⟨rfl, ?_⟩)) (List.Sublist.refl _)) fun x ⟨hi, hall⟩ => ?_
  obtain ⟨i, xa⟩ := x
  simp only at hi hall ⊢
  repeat (first | refine g_op rfl ?_ | refine g_then ?_ | refine g_nil ?_ | refine g_region ?_ | refine g_seq ?_)
  refine g_cond (fun h1 => ?_) (fun h1 => ?_)
  · have hil : i < l.length := by simpa using h1
    refine g_vec 0 rfl (by omega) fun rb ro hra => ?_
    subst hra
    obtain ⟨x0, hx0⟩ : ∃ x0, l[i]? = some x0 := ⟨_, List.getElem?_eq_getElem hil⟩
    have hx0n : x0 < n := by rw [hn]; exact hx.2.1 x0 (List.mem_of_getElem? hx0)
    obtain ⟨B, hB⟩ := get_lt hn hx0n
    have had : AddrIs ba bb bo' := ⟨hba (ne_of_get hB)⟩
    have hli : LtIs x0 n := ⟨hx0n⟩
    have hli1 : LtIs i l.length := ⟨hil⟩
    obtain ⟨cs, hcs, pv, lv, tv, rfl, _, _, _, _, _⟩ := hel x0 B hB
    have hci : CellsIs w0 bb (bo' + x0 * 6) _ := ⟨hcs⟩
    have hxat : XAt (l.map intN) (i * 1) (.int .i64 (x0 : Int)) := ⟨by simp [hx0, intN]⟩
    have hkind : kindOf bl x0 = B.kind := by simp [kindOf, hB]
    repeat (first | refine g_then ?_ | refine g_seq ?_ | refine g_block ?_ | refine g_skip ?_)
    refine g_draw mixed (by kernel_rfl) ?_
    repeat (first | refine q_op rfl ?_ | refine q_nil ?_)
    repeat (refine g_then ?_)
    refine g_cond (fun h2 => ?_) (fun h2 => ?_)
    · repeat (first | refine g_op rfl ?_ | refine g_then ?_ | refine g_nil ?_ | refine g_region ?_ | refine g_seq ?_ | refine g_ret ?_ | refine g_thenRet ?_ | refine g_blockRet ?_)
      refine g_retV rfl ?_
      have hm := (hx.2.2 x0).1 (List.mem_of_getElem? hx0)
      have hce : CanEnd bl wo b := ⟨hm.1, x0, hm.2, by rw [hkind]; simpa using h2⟩
      rw [decide_eq_true hce]
    · repeat (first | refine g_op rfl ?_ | refine g_then ?_ | refine g_nil ?_ | refine g_region ?_ | refine g_opS rfl ?_ | refine g_inBlock ?_ | refine g_skip ?_ | refine g_add rfl (by omega) (by omega) ?_)
      refine g_next (i + 1, some ⟨rb, ro, none⟩) ⟨hil, fun j y hj hy => ?_⟩ (by simp only; omega) (by repeat (first | exact trivial | refine ⟨rfl, ?_⟩)) (List.Sublist.refl _)
      by_cases hji : j = i
      · subst hji
        rw [hx0] at hy
        simp only [Option.some.injEq] at hy
        subst hy
        rw [hkind]; simpa using h2
      · exact hall j y (by simp only at hj; omega) hy
  · have hge : i = l.length := by have := h1; simp at this; omega
    repeat (first | refine g_op rfl ?_ | refine g_then ?_ | refine g_nil ?_ | refine g_region ?_ | refine g_seq ?_ | refine g_exit ?_ | refine g_thenExit ?_ | refine g_exitHere ?_ | refine g_ret ?_)
    refine g_retV rfl ?_
    rw [decide_eq_false]
    rintro ⟨hw, y, hr, hk⟩
    have hm := (hx.2.2 y).2 ⟨hw, hr⟩
    obtain ⟨j, hj⟩ := List.getElem?_of_mem hm
    exact hall j y (by have := (List.getElem?_eq_some_iff.1 hj).1; omega) hj hk

theorem row_sl {S : Nat → Prop} {w0 w : World} {rs : List Row} {E H : List Ent} (h : Wd S w0 (E ++ (rs.map entR ++ H)) w) {i : Nat} {r : Row} (hr : rs[i]? = some r) (hl : r.l.length ≤ 1000 ∧ ∀ x ∈ r.l, inI x) : SlAt w (valR r) 1 r.l IntV := by
  have hlt : i < rs.length := (List.getElem?_eq_some_iff.1 hr).1
  refine h.slAt (k := E.length + i) (a := r.a) (n := r.l.length) (c := r.c) (e := 3) (s := 1) (xs := r.l.map (.int .i64)) ?_ rfl (by omega) fun j y hy => ⟨[.int .i64 y], fun k v hk => ?_, rfl, hl.2 y (List.mem_of_getElem? hy)⟩
  · rw [List.getElem?_append_right (by omega), show E.length + i - E.length = i by omega, List.getElem?_append_left (by simpa using hlt), List.getElem?_map, hr]; rfl
  · match k, hk with
    | 0, hk => simpa [hy] using hk
/-- a table of rows of numbers, as one reads it -/
def tabF (bo : Nat) (rs : List Row) (w : World) : Prop := ∀ i r, rs[i]? = some r → w.cell? ⟨bo, i, none⟩ = some (valR r) ∧ SlAt w (valR r) 1 r.l IntV
theorem Wd.tab {S : Nat → Prop} {w0 w : World} {rs : List Row} {bo n e : Nat} (h : Wd S w0 (Ent.vec (some ⟨bo, 0, none⟩) n n e 1 (rs.map valR) :: rs.map entR) w) (hl : ∀ r ∈ rs, r.l.length ≤ 1000 ∧ ∀ x ∈ r.l, inI x) :
    Wd S w0 [⟨fps (Ent.vec (some ⟨bo, 0, none⟩) n n e 1 (rs.map valR) :: rs.map entR), tabF bo rs⟩] w := by
  have h1 : Wd S w0 ((Ent.vec (some ⟨bo, 0, none⟩) n n e 1 (rs.map valR) :: rs.map entR) ++ []) w := by rw [List.append_nil]; exact h
  refine h1.pack _ fun w2 hw2 i r hr => ⟨?_, ?_⟩
  · have := hw2.vecCell (k := 0) (j := i) (v := valR r) rfl (by rw [List.getElem?_map, hr]; rfl)
    simpa using this
  · exact row_sl (E := [Ent.vec (some ⟨bo, 0, none⟩) n n e 1 (rs.map valR)]) (H := []) (by rw [List.append_nil]; exact hw2) hr (hl r (List.mem_of_getElem? hr))
noncomputable def tableL (bl : List LBlock) : List (List Int) := (List.range bl.length).map fun b => (sureTo bl b bl.length).map fun x : Nat => (x : Int)
/-- rows as they stand: those below b are done, row b up to c -/
noncomputable def tableTo (bl : List LBlock) (b c i : Nat) : List Int := (sureTo bl i (if i < b then bl.length else if i = b then c else 0)).map fun x : Nat => (x : Int)
theorem sureTo_len (bl : List LBlock) (b n : Nat) : (sureTo bl b n).length ≤ n := by
  have := List.length_filter_le (fun c => @decide (Sure bl b c) (Classical.propDecidable _)) (List.range n)
  rw [List.length_range] at this
  exact this
theorem tableTo_bd (bl : List LBlock) (hlen : bl.length ≤ 100) (b c i : Nat) (hc : c ≤ 100) : (tableTo bl b c i).length ≤ 100 ∧ ∀ x ∈ tableTo bl b c i, inI x := by
  have h1 : (if i < b then bl.length else if i = b then c else 0) ≤ 100 := by split <;> (try split) <;> omega
  refine ⟨?_, fun x hx => ?_⟩
  · rw [tableTo, List.length_map]
    exact Nat.le_trans (sureTo_len _ _ _) h1
  · rw [tableTo] at hx
    obtain ⟨y, hy, rfl⟩ := List.mem_map.1 hx
    have := (List.mem_filter.1 hy).1
    have : y < _ := List.mem_range.1 this
    simp only [inI]; omega
theorem tableTo_succ {bl : List LBlock} {b c i : Nat} : tableTo bl b (c + 1) i = if i = b then tableTo bl b c b ++ (open Classical in if Sure bl b c then [(c : Int)] else []) else tableTo bl b c i := by
  classical
  by_cases hi : i = b
  · subst hi
    simp only [tableTo, Nat.lt_irrefl, if_false, if_true, sureTo]
    rw [filterTo_succ c, List.map_append]
    congr 1
    by_cases h : Sure bl i c <;> simp [h]
  · simp only [tableTo, if_neg hi]
theorem tableTo_next {bl : List LBlock} {b i : Nat} : tableTo bl (b + 1) 0 i = tableTo bl b bl.length i := by
  unfold tableTo
  congr 1
  by_cases h1 : i < b
  · simp [h1, show i < b + 1 by omega]
  · by_cases h2 : i = b
    · subst h2; simp
    · rw [if_neg (by omega), if_neg h1, if_neg h2]
      by_cases h3 : i = b + 1 <;> simp [h3]
theorem tableTo_none {bl : List LBlock} {b c i : Nat} (h : ¬ CanEnd bl (-1) b) : tableTo bl b c i = tableTo bl b 0 i := by
  classical
  unfold tableTo
  by_cases h1 : i = b
  · subst h1
    simp only [Nat.lt_irrefl, if_false, if_true]
    congr 1
    simp only [sureTo, List.range_zero, List.filter_nil]
    rw [List.filter_eq_nil_iff]
    intro x _
    simp [Sure, h]
  · simp only [if_neg h1]
theorem sureTable_c (nm pa re : Value) (bl : List LBlock) (bs : Value) (w0 : World) (hbs : SlAt w0 bs 6 bl BlockV) (hlen : bl.length ≤ 100) (hok : GoodB bl) :
    Ret Tryd.prog 53 [.agg #[nm, pa, re, bs]] w0 fun u w' => ∃ x : Nat × (Nat → Prop) × List Row, u = .slice (some ⟨x.1, 0, none⟩) bl.length bl.length ∧ Wd NoS w0 [⟨x.2.1, tabF x.1 x.2.2⟩] w' ∧ x.2.2.map (·.l) = tableL bl := by
  classical
  have hbs0 := hbs
  obtain ⟨ba, n, bc, bb, bo', rfl, hn, hnc, hnb, hbc, hba, hel⟩ := hbs
  rw [← hn] at hlen ⊢
  refine ret_enter Tryd.func53 rfl Tryd.ntmps53 rfl (Wd.nil NoS w0) ?_
  repeat (first | refine g_op rfl ?_ | refine g_then ?_ | refine g_nil ?_ | refine g_region ?_ | refine g_seq ?_ | refine g_box rfl fun _ _ => ?_ | refine g_block ?_ | refine g_make rfl (by omega) (by omega) fun _ _ => ?_)
  rename_i p1 _ bo _
  refine g_nilVecs 3 1 n ?_
  rw [show (List.replicate n (Value.slice none 0 0)) = (List.replicate n (⟨none, 0, []⟩ : Row)).map valR by simp [valR], show (List.replicate n (Ent.vec none 0 0 3 1 [])) = (List.replicate n (⟨none, 0, []⟩ : Row)).map entR by simp [entR]]
  refine g_permH (H1 := Ent.box p1 [nm, pa, re, .slice ba n bc] 35 :: Ent.vec (some ⟨bo, 0, none⟩) n n 27 1 ((List.replicate n (⟨none, 0, []⟩ : Row)).map valR) :: (List.replicate n (⟨none, 0, []⟩ : Row)).map entR) (List.Perm.swap _ _ _) ?_
  refine g_loop (fun (x : Nat × List Row) => x.1 ≤ n ∧ x.2.length = n ∧ ∀ i r, x.2[i]? = some r → r.l = tableTo bl x.1 0 i) (fun x => [(4, .int .i64 x.1), (3, .slice (some ⟨bo, 0, none⟩) n n), (1, .pointer (some ⟨p1, 0, none⟩))])
    (fun x => Ent.box p1 [nm, pa, re, .slice ba n bc] 35 :: Ent.vec (some ⟨bo, 0, none⟩) n n 27 1 (x.2.map valR) :: x.2.map entR) (fun x => n - x.1) (0, List.replicate n ⟨none, 0, []⟩)
    ⟨Nat.zero_le _, by simp, fun i r hr => ?_⟩ (g_done (by repeat (first | exact trivial | refine ⟨rfl, ?_⟩)) (List.Sublist.refl _)) fun x ⟨hi, hrl, hrows⟩ => ?_
  · simp only [List.getElem?_replicate] at hr
    split at hr
    · simp only [Option.some.injEq] at hr
      subst hr
      simp [tableTo, sureTo]
    · cases hr
  obtain ⟨b, rs⟩ := x
  simp only at hi hrl hrows ⊢
  repeat (first | refine g_op rfl ?_ | refine g_then ?_ | refine g_nil ?_ | refine g_region ?_ | refine g_seq ?_)
  refine g_cond (fun h1 => ?_) (fun h1 => ?_)
  · have hlt : b < n := by simpa using h1
    repeat (first | refine g_op rfl ?_ | refine g_then ?_ | refine g_region ?_ | refine g_seq ?_ | refine g_block ?_ | refine g_skip ?_)
    refine g_callV rfl (fun w hw => refEnds_c _ _ _ bl _ b (-1) w (hbs0.keep keeps_block hw.chg) (by omega) hok (by omega)) ?_
    generalize he1 : decide (CanEnd bl (-1) b) = e1
    cases e1
    · have hno : ¬ CanEnd bl (-1) b := by simpa using he1
      repeat (first | refine g_op rfl ?_ | refine g_then ?_ | refine g_nil ?_ | refine g_region ?_ | refine g_opS rfl ?_ | refine g_condT ?_ | refine g_add rfl (by omega) (by omega) ?_ | refine g_exit ?_ | refine g_thenExit ?_ | refine g_exitHere ?_)
      refine g_next (b + 1, rs) ⟨hlt, hrl, fun i r hr => ?_⟩ (by simp only; omega) (by repeat (first | exact trivial | refine ⟨rfl, ?_⟩)) (List.Sublist.refl _)
      rw [hrows i r hr, tableTo_next, tableTo_none (c := bl.length) hno]
    have hce : CanEnd bl (-1) b := by simpa using he1
    repeat (first | refine g_op rfl ?_ | refine g_then ?_ | refine g_nil ?_ | refine g_region ?_ | refine g_seq ?_ | refine g_block ?_ | refine g_skip ?_ | refine g_condF ?_)
    refine g_loop (fun (x : Nat × List Row) => x.1 ≤ n ∧ x.2.length = n ∧ ∀ i r, x.2[i]? = some r → r.l = tableTo bl b x.1 i) (fun x => [(5, .int .i64 x.1), (4, .int .i64 b), (3, .slice (some ⟨bo, 0, none⟩) n n), (1, .pointer (some ⟨p1, 0, none⟩))])
      (fun x => Ent.box p1 [nm, pa, re, .slice ba n bc] 35 :: Ent.vec (some ⟨bo, 0, none⟩) n n 27 1 (x.2.map valR) :: x.2.map entR) (fun x => n - x.1) (0, rs)
      ⟨Nat.zero_le _, hrl, hrows⟩ (g_done (by repeat (first | exact trivial | refine ⟨rfl, ?_⟩)) (List.Sublist.refl _)) fun x ⟨hj, hrl', hrows'⟩ => ?_
    obtain ⟨c, rs'⟩ := x
    simp only at hj hrl' hrows' ⊢
    repeat (first | refine g_op rfl ?_ | refine g_then ?_ | refine g_nil ?_ | refine g_region ?_ | refine g_seq ?_)
    refine g_cond (fun h2 => ?_) (fun h2 => ?_)
    · have hclt : c < n := by simpa using h2
      repeat (first | refine g_op rfl ?_ | refine g_then ?_ | refine g_region ?_ | refine g_seq ?_ | refine g_block ?_ | refine g_skip ?_)
      refine g_callV rfl (fun w hw => refEnds_c _ _ _ bl _ b c w (hbs0.keep keeps_block hw.chg) (by omega) hok (by omega)) ?_
      generalize he2 : decide (CanEnd bl c b) = e2
      cases e2
      · have hs : Sure bl b c := ⟨hce, by simpa using he2⟩
        obtain ⟨r, hr⟩ : ∃ r, rs'[b]? = some r := ⟨_, List.getElem?_eq_getElem (by omega)⟩
        have hrb := tableTo_bd bl (by omega) b c b (by omega)
        rw [← hrows' b r hr] at hrb
        have hli : LtIs b n := ⟨hlt⟩
        have hxa : XAt (rs'.map valR) (b * 1) (.slice r.a r.l.length r.c) := ⟨by simp [hr, valR]⟩
        have hbl : b < rs'.length := by omega
        repeat (first | refine g_op rfl ?_ | refine g_then ?_ | refine g_nil ?_ | refine g_region ?_ | refine g_condT ?_ | refine g_build1 rfl rfl fun _ _ => ?_)
        rename_i bt _
        refine g_appendAt (b + 3) (xs := r.l.map (.int .i64)) (e := 3) (by simp [hr, entR]) rfl rfl (by omega) (by omega) fun a' c' => ?_
        refine g_eqH (H1 := Ent.vec (some ⟨bt, 0, none⟩) 1 1 3 1 [.int .i64 c] :: Ent.box p1 [nm, pa, re, .slice ba n bc] 35 :: Ent.vec (some ⟨bo, 0, none⟩) n n 27 1 (rs'.map valR) :: (rs'.set b ⟨a', c', r.l ++ [(c : Int)]⟩).map entR) (by simp [entR, List.map_set]) ?_
        have hxs : XSet (rs'.map valR) (b * 1) (.slice a' (r.l.length + 1) c') ((rs'.set b ⟨a', c', r.l ++ [(c : Int)]⟩).map valR) := ⟨by simp [valR, List.map_set], by simpa using hbl⟩
        repeat (first | refine g_op rfl ?_ | refine g_then ?_ | refine g_nil ?_ | refine g_region ?_ | refine g_opS rfl ?_ | refine g_inBlock ?_ | refine g_add rfl (by omega) (by omega) ?_ | refine g_storeV ?_)
        refine g_next (c + 1, rs'.set b ⟨a', c', r.l ++ [(c : Int)]⟩) ⟨hclt, by simpa using hrl', fun i q hq => ?_⟩ (by simp only; omega) (by repeat (first | exact trivial | refine ⟨rfl, ?_⟩)) (List.Sublist.cons _ (List.Sublist.refl _))
        simp only
        rw [tableTo_succ]
        simp only [List.getElem?_set] at hq
        by_cases hib : b = i
        · subst hib
          simp only [if_true, hbl, Option.some.injEq] at hq
          subst hq
          simp only [if_true, if_pos hs]
          rw [hrows' b r hr]
        · rw [if_neg hib] at hq
          rw [if_neg (Ne.symm hib)]
          exact hrows' i q hq
      · have hs : ¬ Sure bl b c := fun h => h.2 (by simpa using he2)
        repeat (first | refine g_op rfl ?_ | refine g_then ?_ | refine g_nil ?_ | refine g_region ?_ | refine g_opS rfl ?_ | refine g_inBlock ?_ | refine g_skip ?_ | refine g_condF ?_ | refine g_add rfl (by omega) (by omega) ?_)
        refine g_next (c + 1, rs') ⟨hclt, hrl', fun i q hq => ?_⟩ (by simp only; omega) (by repeat (first | exact trivial | refine ⟨rfl, ?_⟩)) (List.Sublist.refl _)
        simp only
        rw [tableTo_succ, if_neg hs, List.append_nil, hrows' i q hq]
        by_cases hib : i = b
        · subst hib; simp
        · simp [hib]
    · have hge : c = n := by have := h2; simp at this; omega
      repeat (first | refine g_op rfl ?_ | refine g_then ?_ | refine g_nil ?_ | refine g_region ?_ | refine g_opS rfl ?_ | refine g_inBlock ?_ | refine g_add rfl (by omega) (by omega) ?_ | refine g_exit ?_ | refine g_thenExit ?_ | refine g_exitHere ?_)
      refine g_next (b + 1, rs') ⟨hlt, hrl', fun i q hq => ?_⟩ (by simp only; omega) (by repeat (first | exact trivial | refine ⟨rfl, ?_⟩)) (List.Sublist.refl _)
      rw [tableTo_next, hrows' i q hq, hge, hn]
  · have hge : b = n := by have := h1; simp at this; omega
    repeat (first | refine g_op rfl ?_ | refine g_then ?_ | refine g_nil ?_ | refine g_region ?_ | refine g_seq ?_ | refine g_exit ?_ | refine g_thenExit ?_ | refine g_exitHere ?_ | refine g_ret ?_)
    refine g_ret1 rfl fun w hw => ⟨(bo, _, rs), rfl, (hw.sub (List.Sublist.cons _ (List.Sublist.refl _))).tab fun r hr => ?_, ?_⟩
    · obtain ⟨i, hi⟩ := List.getElem?_of_mem hr
      have := tableTo_bd bl (by omega) b 0 i (by omega)
      rw [← hrows i r hi] at this
      exact ⟨by omega, this.2⟩
    · show rs.map (·.l) = tableL bl
      apply List.ext_getElem?
      intro i
      rw [List.getElem?_map, tableL, List.getElem?_map]
      by_cases hin : i < n
      · rw [List.getElem?_eq_getElem (by omega : i < rs.length), List.getElem?_range (by omega)]
        simp only [Option.map_some, Option.some.injEq]
        rw [hrows i _ (List.getElem?_eq_getElem (by omega)), tableTo, if_pos (by omega)]
      · rw [List.getElem?_eq_none (by omega), List.getElem?_eq_none (by rw [List.length_range]; omega)]
        rfl
end Go.Proofs.YtebajiafdkokjaaDoor

/- A region that draws its order and writes: every order ends in one of the states that are told by some z. Grids of rows, as plain facts. -/
namespace Go.Proofs.YtebajiafdkokjaaDoor
open Go Go.RowKit

section
variable {P : Program} {ro : Option Nat} {N : Nat} {ds : List Deferred} {S : Nat → Prop} {w0 : World} {L L' : List (Nat × Value)} {H H' : List Ent} {Q : Exit → Act → World → Prop}
theorem wpAnyIn_of_only {M : Act → World → Prop} {ops : Array Oper} (k : ∀ a w, M a w → Q .normal a w) : ∀ (fuel : Nat) (listed : Array Bool) (a : Act) (w : World), wpAnyIn (FW ro) 0 P .any ops (OnlyN M) fuel listed a w → wpAnyIn (FW ro) 0 P .any ops Q fuel listed a w := by
  intro fuel
  induction fuel with
  | zero => exact fun listed a w h => ⟨h.1, k a w h.2⟩
  | succ fuel ih =>
    intro listed a w h
    refine ⟨fun e => k a w (h.1 e), fun i hi => ?_⟩
    have h2 := h.2 i hi
    unfold wpOpIn at h2 ⊢
    split
    · rename_i ho
      simp only [ho] at h2
      exact ih _ _ _ h2
    · rename_i o ho
      simp only [ho] at h2
      split
      · rename_i hw
        rw [if_pos hw] at h2
        refine ⟨h2.1, ?_⟩
        have h3 := h2.2
        revert h3
        generalize (o.semAt (FW ro).round a.eval).run P w = r
        intro h3
        cases r with
        | ok nx w1 =>
          cases nx with
          | value v => exact ih _ _ _ h3
          | skip => exact ih _ _ _ h3
          | defer d => exact ih _ _ _ h3
          | enter f args =>
            refine ⟨h3.1, h3.2.mono fun e w2 hh => ?_⟩
            cases e with
            | returned v => exact ih _ _ _ hh
            | panicked c => exact (hh : False).elim
            | outgrown => exact (Exists.elim hh fun _ h => Exists.elim h fun _ h => (h : False).elim)
          | row r args => exact ⟨h3.1, h3.2.mono fun v w2 hh => ih _ _ _ hh⟩
          | round l f tmps assign body =>
            refine ⟨h3.1, h3.2.mono fun e w2 hh => ?_⟩
            cases e with
            | returned v => exact ih _ _ _ hh
            | panicked c => exact (hh : False).elim
            | outgrown => exact (Exists.elim hh fun _ h => Exists.elim h fun _ h => (h : False).elim)
          | _ => exact h3
        | halt x w1 => cases x <;> exact (h3 : False).elim
      · rename_i hw
        rw [if_neg hw] at h2
        exact ⟨h2.1, ih _ _ _ h2.2⟩
/-- every order ends in one of these states -/
theorem g_drawE {α : Type} {id n : Nat} {l : List Oper} [hl : LenO l n] (Lz : α → List (Nat × Value)) (Hz : α → List Ent) (hm : P.follows .mixedOrders = true)
    (h : G N ds S w0 L H (wpAnyIn (FW ro) 0 P .any l.toArray (OnlyN fun a w => ∃ z, St N ds S w0 (Lz z) (Hz z) a w) n (Array.replicate n false)))
    (k : ∀ z, G N ds S w0 (Lz z) (Hz z) (Q .normal)) : G N ds S w0 L H (Code.wpIn (FW ro) 0 P (Code.region id l.toArray true) Q) := fun a w hS => by
  refine wpIn_region_any hm ?_
  have h1 := h a { w with drawn := w.drawn + 1 } ⟨hS.fr, hS.wd.same rfl rfl rfl rfl⟩
  have := wpAnyIn_of_only (fun a w ⟨z, hz⟩ => k z a w hz) _ _ _ _ h1
  rw [← hl.eq] at this
  simpa using this
theorem g_doneE {α : Type} {Lz : α → List (Nat × Value)} {Hz : α → List Ent} (z : α) (hL : allIn L (Lz z)) (hH : (Hz z).Sublist H) : G N ds S w0 L H (fun a w => ∃ z, St N ds S w0 (Lz z) (Hz z) a w) := fun _ _ hS => ⟨z, hS.fix hL hH⟩
end

/-! ### Rows of those c for which R b c, row by row -/
open Classical in
noncomputable def gridTo (R : Nat → Nat → Prop) (n b c i : Nat) : List Int := ((List.range (if i < b then n else if i = b then c else 0)).filter fun d => decide (R i d)).map fun x : Nat => (x : Int)
open Classical in
noncomputable def gridL (R : Nat → Nat → Prop) (n : Nat) : List (List Int) := (List.range n).map fun b => ((List.range n).filter fun d => decide (R b d)).map fun x : Nat => (x : Int)
theorem gridTo_bd (R : Nat → Nat → Prop) {n : Nat} (hn : n ≤ 100) (b c i : Nat) (hc : c ≤ 100) : (gridTo R n b c i).length ≤ 100 ∧ ∀ x ∈ gridTo R n b c i, inI x := by
  classical
  have h1 : (if i < b then n else if i = b then c else 0) ≤ 100 := by split <;> (try split) <;> omega
  refine ⟨?_, fun x hx => ?_⟩
  · rw [gridTo, List.length_map]
    have := List.length_filter_le (fun d => decide (R i d)) (List.range (if i < b then n else if i = b then c else 0))
    rw [List.length_range] at this
    omega
  · rw [gridTo] at hx
    obtain ⟨y, hy, rfl⟩ := List.mem_map.1 hx
    have := (List.mem_filter.1 hy).1
    have : y < _ := List.mem_range.1 this
    simp only [inI]; omega
open Classical in
theorem gridTo_succ {R : Nat → Nat → Prop} {n b c i : Nat} : gridTo R n b (c + 1) i = if i = b then gridTo R n b c b ++ (if R b c then [(c : Int)] else []) else gridTo R n b c i := by
  by_cases hi : i = b
  · subst hi
    simp only [gridTo, Nat.lt_irrefl, if_false, if_true]
    rw [filterTo_succ c, List.map_append]
    congr 1
    by_cases h : R i c <;> simp [h]
  · simp only [gridTo, if_neg hi]
theorem gridTo_next {R : Nat → Nat → Prop} {n b i : Nat} : gridTo R n (b + 1) 0 i = gridTo R n b n i := by
  unfold gridTo
  congr 3
  by_cases h1 : i < b
  · simp [h1, show i < b + 1 by omega]
  · by_cases h2 : i = b
    · subst h2; simp
    · rw [if_neg (by omega), if_neg h1, if_neg h2]
      by_cases h3 : i = b + 1 <;> simp [h3]
theorem gridTo_zero {R : Nat → Nat → Prop} {n i : Nat} : gridTo R n 0 0 i = [] := by simp [gridTo]
theorem gridTo_all {R : Nat → Nat → Prop} {n : Nat} {rs : List Row} (hl : rs.length = n) (h : ∀ i r, rs[i]? = some r → r.l = gridTo R n n 0 i) : rs.map (·.l) = gridL R n := by
  apply List.ext_getElem?
  intro i
  rw [List.getElem?_map, gridL, List.getElem?_map]
  by_cases hin : i < n
  · rw [List.getElem?_eq_getElem (by omega : i < rs.length), List.getElem?_range (by omega)]
    simp only [Option.map_some, Option.some.injEq]
    rw [h i _ (List.getElem?_eq_getElem (by omega)), gridTo, if_pos (by omega)]
  · rw [List.getElem?_eq_none (by omega), List.getElem?_eq_none (by rw [List.length_range]; omega)]
    rfl
theorem grid_new (n : Nat) {R : Nat → Nat → Prop} : ∀ i r, (List.replicate n (⟨none, 0, []⟩ : Row))[i]? = some r → r.l = gridTo R n 0 0 i := fun i r hr => by
  simp only [List.getElem?_replicate] at hr
  split at hr
  · simp only [Option.some.injEq] at hr
    subst hr
    exact gridTo_zero.symm
  · cases hr
/-- row b takes c in -/
theorem grid_add {R : Nat → Nat → Prop} {n b c : Nat} {rs : List Row} {r : Row} {a' : Option Addr} {c' : Nat} (h : ∀ i q, rs[i]? = some q → q.l = gridTo R n b c i) (hr : rs[b]? = some r) (hs : R b c) :
    ∀ i q, (rs.set b ⟨a', c', r.l ++ [(c : Int)]⟩)[i]? = some q → q.l = gridTo R n b (c + 1) i := by
  classical
  intro i q hq
  have hbl := (List.getElem?_eq_some_iff.1 hr).1
  rw [gridTo_succ]
  simp only [List.getElem?_set] at hq
  by_cases hib : b = i
  · subst hib
    simp only [if_true, hbl, Option.some.injEq] at hq
    subst hq
    simp only [if_true, if_pos hs]
    rw [h b r hr]
  · rw [if_neg hib] at hq
    rw [if_neg (Ne.symm hib)]
    exact h i q hq
theorem grid_pass {R : Nat → Nat → Prop} {n b c : Nat} {rs : List Row} (h : ∀ i q, rs[i]? = some q → q.l = gridTo R n b c i) (hs : ¬ R b c) : ∀ i q, rs[i]? = some q → q.l = gridTo R n b (c + 1) i := by
  classical
  intro i q hq
  rw [gridTo_succ, if_neg hs, List.append_nil, h i q hq]
  by_cases hib : i = b
  · subst hib; simp
  · simp [hib]
end Go.Proofs.YtebajiafdkokjaaDoor

/- graph.Reach; the law GraphReaches, walked. -/
namespace Go.Proofs.YtebajiafdkokjaaDoor
open Go Go.RowKit
attribute [local irreducible] wpListIn Code.wpIn Exit.then Exit.inBlock bodyPost wpQuiet wpAnyIn
set_option maxHeartbeats 4000000

theorem check_pos {u : LUnit} (h : (checkL u).1 = 0) {k : Nat} {X : LFunc} (hX : u.funcs[k]? = some X) : 0 < X.blocks.length := by
  unfold checkL at h
  split at h
  · cases h
  · split at h
    · rename_i h2; exact absurd h h2
    · split at h
      · rename_i h2; exact absurd h h2
      · rename_i h3
        have hz := firstI_zero (by simpa using h3)
        have := hz k (List.getElem?_eq_some_iff.1 hX).1
        simp only [headAt, at0, hX, headErr] at this
        refine Classical.byContradiction fun hn => ?_
        have e : X.blocks.length = 0 := by omega
        rw [e] at this
        simp [within] at this
        split at this
        · omega
        · split at this
          · omega
          · split at this <;> omega
theorem reach_bad (u : LUnit) (hl : light u) (k : Int) (hk : inI k) (hbad : (askedL u k).1 ≠ 0) (g fs : Value) (w0 : World) (hg : SlAt w0 g 3 u.globals GlobalV) (hf : SlAt w0 fs 4 u.funcs FuncV) (hways : CellsAt w0 0 0 waysC) :
    RetV Tryd.prog 18 [.agg #[g, fs], .int .i64 k] w0 (.tuple #[.slice none 0 0, .agg #[.int .i64 (askedL u k).1, .int .i64 (askedL u k).2]]) := by
  have hg0 := hg
  have hf0 := hf
  obtain ⟨ga, gn, gc, gb, go, rfl, _⟩ := hg
  obtain ⟨fa, fn, fc, fb, fo, rfl, _⟩ := hf
  refine ret_enter Tryd.func18 rfl Tryd.ntmps18 rfl (Wd.nil NoS w0) ?_
  repeat (first | refine g_op rfl ?_ | refine g_then ?_ | refine g_nil ?_ | refine g_region ?_ | refine g_seq ?_ | refine g_box rfl fun _ _ => ?_ | refine g_alloc rfl fun _ _ => ?_)
  rename_i p2 _ p5 _
  refine g_callV rfl (fun w hw => func_bad u hl k hk hbad _ _ w (hg0.keep keeps_global hw.chg) (hf0.keep keeps_func hw.chg) (hways.keep hw.chg)) ?_
  unfold zeroFn
  repeat (first | refine g_op rfl ?_ | refine g_then ?_ | refine g_nil ?_ | refine g_region ?_ | refine g_seq ?_ | refine g_alloc rfl fun _ _ => ?_ | refine g_storeAgg ?_)
  rename_i p6 _ p7 _
  refine g_cond (fun h1 => ?_) (fun h1 => ?_)
  · repeat (refine g_seq ?_)
    refine g_drawW [(4, .slice none 0 0), (5, .pointer (some ⟨p5, 0, none⟩))] [Ent.box p5 [.int .i64 (askedL u k).1, .int .i64 (askedL u k).2] 29] mixed ?_ ?_
    · repeat' (first | refine g_any0 (by decide +kernel) ?_ | refine g_any (by decide +kernel) ?_ | refine any_nil | refine any_skip (by decide +kernel) ?_ | refine any_cons ?_ ?_ | refine g_op rfl ?_ | refine g_then ?_ | refine g_nil ?_ | refine g_opS rfl ?_ | refine g_storeAgg ?_)
      all_goals exact g_done (by repeat (first | exact trivial | refine ⟨rfl, ?_⟩)) (by simp)
    · repeat (first | refine g_then ?_ | refine g_ret ?_ | refine g_thenRet ?_)
      exact g_retTC rfl fun _ hw => ⟨rfl, hw.chg⟩
  · exact absurd h1 (by simp [hbad])
theorem reach_ok (u : LUnit) (hl : light u) (k : Nat) (hgood : (askedL u k).1 = 0) (X : LFunc) (hX : u.funcs[k]? = some X) (hok : GoodB X.blocks) (hpos : 0 < X.blocks.length) (g fs : Value) (w0 : World) (hg : SlAt w0 g 3 u.globals GlobalV) (hf : SlAt w0 fs 4 u.funcs FuncV) (hways : CellsAt w0 0 0 waysC) :
    Ret Tryd.prog 18 [.agg #[g, fs], .int .i64 k] w0 fun v w' => ∃ x : Nat, v = .tuple #[.slice (some ⟨x, 0, none⟩) X.blocks.length X.blocks.length, .agg #[.int .i64 0, .int .i64 0]] ∧ Wd NoS w0 [Ent.vec (some ⟨x, 0, none⟩) X.blocks.length X.blocks.length 4 1 ((seenOf X.blocks 0).map .bool)] w' ∧ True := by
  classical
  have hg0 := hg
  have hf0 := hf
  obtain ⟨ga, gn, gc, gb, go, rfl, _⟩ := hg
  obtain ⟨fa, fn, fc, fb, fo, rfl, _⟩ := hf
  have hlx := hl.2 X (List.mem_of_getElem? hX)
  have h24 := hlx.1
  obtain ⟨bv, hbv, hfc⟩ := func_ok u hl k hgood _ _ X hX w0 hg0 hf0 hways
  have hbv0 := hbv
  obtain ⟨ba, n, bc, bb, bo', rfl, hn, hnc, hnb, hbc, hba, hel⟩ := hbv
  refine ret_enter Tryd.func18 rfl Tryd.ntmps18 rfl (Wd.nil NoS w0) ?_
  repeat (first | refine g_op rfl ?_ | refine g_then ?_ | refine g_nil ?_ | refine g_region ?_ | refine g_seq ?_ | refine g_box rfl fun _ _ => ?_ | refine g_alloc rfl fun _ _ => ?_)
  rename_i p2 _ p5 _
  refine g_callV rfl (fun w hw => hfc w hw.chg) ?_
  repeat (first | refine g_op rfl ?_ | refine g_then ?_ | refine g_nil ?_ | refine g_region ?_ | refine g_seq ?_ | refine g_alloc rfl fun _ _ => ?_ | refine g_storeAgg ?_ | refine g_skip ?_ | refine g_condF ?_ | refine g_make rfl (by omega) (by omega) fun _ _ => ?_)
  rename_i p6 _ p7 _ ob _
  refine g_callE (val := fun x : Option Addr × Nat => .slice x.1 (postL X.blocks).length x.2) (E := fun x => [Ent.vec x.1 (postL X.blocks).length x.2 3 1 ((postL X.blocks).map intN)]) (φ := fun _ => True) rfl (fun w hw => graphPost_c _ _ _ X.blocks _ w (hbv0.keep keeps_block hw.chg) (by omega) hok hpos) fun x _ => ?_
  obtain ⟨qa, qc⟩ := x
  rw [← hn, show List.replicate n (Value.bool false) = (List.replicate n false).map Value.bool by simp]
  simp only [List.cons_append, List.nil_append]
  have hql := postL_len hpos
  repeat (first | refine g_op rfl ?_ | refine g_then ?_ | refine g_nil ?_ | refine g_block ?_)
  refine g_loop (fun (x : Nat × Option Addr × List Bool) => x.1 ≤ (postL X.blocks).length ∧ x.2.2.length = n ∧ ∀ y, x.2.2[y]? = some true ↔ y ∈ (postL X.blocks).take x.1) (fun x => [(28, .int .i64 x.1), (26, .slice x.2.1 (postL X.blocks).length qc), (27, .int .i64 (postL X.blocks).length), (8, .slice (some ⟨ob, 0, none⟩) n n), (6, .pointer (some ⟨p6, 0, none⟩)), (7, .pointer (some ⟨p7, 0, none⟩)), (5, .pointer (some ⟨p5, 0, none⟩))])
    (fun x => [Ent.vec x.2.1 (postL X.blocks).length qc 3 1 ((postL X.blocks).map intN), Ent.vec (some ⟨ob, 0, none⟩) n n 4 1 (x.2.2.map .bool), Ent.box p7 [.int .i64 0, .int .i64 0] 29, Ent.box p6 [.string X.name, .int .i64 X.params, .int .i64 X.regs, .slice ba n bc] 35, Ent.box p5 [.int .i64 0, .int .i64 0] 29]) (fun x => (postL X.blocks).length - x.1) (0, qa, List.replicate n false)
    ⟨Nat.zero_le _, by simp, fun y => by simp [List.getElem?_replicate]⟩ (g_done (by repeat (first | exact trivial | refine ⟨rfl, ?_⟩)) (by simp)) fun x ⟨hi, hol, hout⟩ => ?_
  obtain ⟨i, qa, out⟩ := x
  simp only at hi hol hout ⊢
  repeat (first | refine g_op rfl ?_ | refine g_then ?_ | refine g_nil ?_ | refine g_region ?_ | refine g_seq ?_)
  refine g_cond (fun h1 => ?_) (fun h1 => ?_)
  · have hlt : i < (postL X.blocks).length := by simpa using h1
    refine g_vec 0 rfl (by omega) fun rb ro hra => ?_
    subst hra
    obtain ⟨y, hy⟩ : ∃ y, (postL X.blocks)[i]? = some y := ⟨_, List.getElem?_eq_getElem hlt⟩
    have hyn : y < n := by rw [hn]; exact postL_lt hok hpos (List.mem_of_getElem? hy)
    obtain ⟨ov, hov⟩ : ∃ ov, out[y]? = some ov := ⟨_, List.getElem?_eq_getElem (by omega)⟩
    have hli : LtIs i (postL X.blocks).length := ⟨hlt⟩
    have hly : LtIs y n := ⟨hyn⟩
    have hea : ElAt out y ov := ⟨hov⟩
    have hxat : XAt ((postL X.blocks).map intN) (i * 1) (.int .i64 (y : Int)) := ⟨by simp [hy, intN]⟩
    repeat (first | refine g_op rfl ?_ | refine g_then ?_ | refine g_nil ?_ | refine g_region ?_ | refine g_seq ?_ | refine g_opS rfl ?_ | refine g_inBlock ?_ | refine g_block ?_ | refine g_skip ?_ | refine g_add rfl (by omega) (by omega) ?_ | refine g_storeV ?_)
    refine g_next (i + 1, some ⟨rb, ro, none⟩, out.set y true) ⟨hlt, by simpa using hol, fun z => ?_⟩ (by simp only; omega) (by repeat (first | exact trivial | refine ⟨rfl, ?_⟩)) (List.Sublist.refl _)
    simp only
    rw [List.take_add_one, hy, List.mem_append, List.getElem?_set]
    simp only [Option.toList_some, List.mem_singleton]
    by_cases e : y = z
    · subst e
      simp only [if_true, or_true, iff_true]
      rw [if_pos (by omega)]
    · rw [if_neg e, hout z]
      exact ⟨.inl, fun h => h.resolve_right fun h => e h.symm⟩
  · have hge : i = (postL X.blocks).length := by have := h1; simp at this; omega
    have hfin : out = seenOf X.blocks 0 := by
      apply List.ext_getElem?
      intro y
      by_cases hy : y < n
      · rw [seenOf_get (by omega)]
        obtain ⟨v, hv⟩ : ∃ v, out[y]? = some v := ⟨_, List.getElem?_eq_getElem (by omega)⟩
        have h2 := hout y
        rw [hge, List.take_length, postL_mem hok hpos, hv] at h2
        rw [hv]
        congr 1
        cases v
        · symm; rw [decide_eq_false_iff_not]; intro hr; exact absurd (h2.2 hr) (by simp)
        · symm; rw [decide_eq_true_eq]; exact h2.1 rfl
      · rw [List.getElem?_eq_none (by omega), List.getElem?_eq_none (by rw [seenOf_length]; omega)]
    repeat (first | refine g_then ?_ | refine g_seq ?_ | refine g_exit ?_ | refine g_thenExit ?_ | refine g_exitHere ?_)
    refine g_drawW [(4, .slice (some ⟨ob, 0, none⟩) n n), (5, .pointer (some ⟨p5, 0, none⟩))] [Ent.vec (some ⟨ob, 0, none⟩) n n 4 1 (out.map .bool), Ent.box p5 [.int .i64 0, .int .i64 0] 29] mixed ?_ ?_
    · repeat' (first | refine g_any0 (by decide +kernel) ?_ | refine g_any (by decide +kernel) ?_ | refine any_nil | refine any_skip (by decide +kernel) ?_ | refine any_cons ?_ ?_ | refine g_op rfl ?_ | refine g_then ?_ | refine g_nil ?_ | refine g_storeAgg ?_)
      all_goals exact g_done (by repeat (first | exact trivial | refine ⟨rfl, ?_⟩)) (List.Sublist.cons _ (List.Sublist.cons_cons _ (List.Sublist.cons _ (List.Sublist.cons _ (List.Sublist.refl _)))))
    · repeat (first | refine g_then ?_ | refine g_ret ?_)
      refine g_retTC rfl fun w hw => ⟨ob, rfl, ?_, trivial⟩
      rw [← hfin]
      exact hw.sub (List.Sublist.cons_cons _ (List.nil_sublist _))
theorem reached_c (nm pa re : Value) (bl : List LBlock) (bs : Value) (hbsl : ∃ a n c, bs = .slice a n c) (w0 : World) (hbs : SlAt w0 bs 6 bl BlockV) (hlen : bl.length ≤ 100) (hok : GoodB bl) (hb : 0 < bl.length) :
    Ret Tryd.prog 19 [.agg #[nm, pa, re, bs]] w0 fun u w' => ∃ x : Option Addr × Nat × List Nat, u = .slice x.1 x.2.2.length x.2.1 ∧ Wd NoS w0 [Ent.vec x.1 x.2.2.length x.2.1 3 1 (x.2.2.map intN)] w' ∧ FromR bl (-1) 0 x.2.2 := by
  obtain ⟨ba, n, bc, rfl⟩ := hbsl
  refine ret_enter Tryd.func19 rfl Tryd.ntmps19 rfl (Wd.nil NoS w0) ?_
  repeat (first | refine g_op rfl ?_ | refine g_then ?_ | refine g_nil ?_ | refine g_region ?_ | refine g_seq ?_ | refine g_box rfl fun _ _ => ?_)
  refine g_callE (val := fun x : Option Addr × Nat × List Nat => .slice x.1 x.2.2.length x.2.1) (E := fun x => [Ent.vec x.1 x.2.2.length x.2.1 3 1 (x.2.2.map intN)]) (φ := fun x => FromR bl (-1) 0 x.2.2) rfl (fun w hw => refFrom_c _ _ _ bl _ 0 (-1) w (hbs.keep keeps_block hw.chg) hlen hok hb) fun x hx => ?_
  obtain ⟨xa, xc, l⟩ := x
  simp only [List.cons_append, List.nil_append] at hx ⊢
  repeat (first | refine g_then ?_ | refine g_nil ?_ | refine g_opS rfl ?_ | refine g_ret ?_)
  exact g_ret1 rfl fun w hw => ⟨(xa, xc, l), rfl, hw.sel [0] (by decide), hx⟩
theorem reachLaw_c (u : LUnit) (k : Int) (hk : inI k) (g fs : Value) (w0 : World) (hg : SlAt w0 g 3 u.globals GlobalV) (hf : SlAt w0 fs 4 u.funcs FuncV) (hways : CellsAt w0 0 0 waysC) :
    RetV Tryd.prog 4 [.agg #[g, fs], .int .i64 k] w0 (.bool true) := by
  classical
  have hg0 := hg
  have hf0 := hf
  obtain ⟨ga, gn, gc, gb, go, rfl, _⟩ := hg
  obtain ⟨fa, fn, fc, fb, fo, rfl, hfn, hfnc, hfnb, hfc, hfa, hfel⟩ := hf
  refine ret_enter Tryd.func4 rfl Tryd.ntmps4 rfl (Wd.nil NoS w0) ?_
  repeat (first | refine g_op rfl ?_ | refine g_then ?_ | refine g_nil ?_ | refine g_region ?_ | refine g_seq ?_ | refine g_box rfl fun _ _ => ?_)
  rename_i p2 _
  refine g_callE (val := fun b : Bool => .bool b) (E := fun _ => []) (φ := fun b => b = false → light u) rfl (fun w hw => heavy_c u _ _ w (hf0.keep keeps_func hw.chg) ⟨_, _, _, rfl⟩) fun b hb => ?_
  simp only [List.nil_append]
  cases b
  case true =>
    repeat (first | refine g_then ?_ | refine g_nil ?_ | refine g_region ?_ | refine g_seq ?_ | refine g_opS rfl ?_ | refine g_condT ?_ | refine g_ret ?_ | refine g_thenRet ?_)
    exact g_retV rfl rfl
  have hl := hb rfl
  repeat (first | refine g_op rfl ?_ | refine g_then ?_ | refine g_nil ?_ | refine g_region ?_ | refine g_seq ?_ | refine g_skip ?_ | refine g_condF ?_)
  by_cases hbad : (askedL u k).1 ≠ 0
  · refine g_callV rfl (fun w hw => reach_bad u hl k hk hbad _ _ w (hg0.keep keeps_global hw.chg) (hf0.keep keeps_func hw.chg) (hways.keep hw.chg)) ?_
    repeat (first | refine g_op rfl ?_ | refine g_then ?_ | refine g_nil ?_ | refine g_region ?_ | refine g_seq ?_ | refine g_alloc rfl fun _ _ => ?_ | refine g_storeAgg ?_)
    refine g_callV rfl (fun w hw => asked_c u hl k _ _ w (hg0.keep keeps_global hw.chg) (hf0.keep keeps_func hw.chg) (hways.keep hw.chg)) ?_
    repeat (first | refine g_op rfl ?_ | refine g_then ?_ | refine g_nil ?_ | refine g_region ?_ | refine g_seq ?_ | refine g_alloc rfl fun _ _ => ?_ | refine g_storeAgg ?_)
    refine g_cond (fun h1 => ?_) (fun h1 => ?_)
    · repeat (first | refine g_op rfl ?_ | refine g_region ?_ | refine g_seq ?_)
      rw [show (decide ((askedL u k).1 = (askedL u k).1) && decide ((askedL u k).2 = (askedL u k).2)) = true by simp]
      repeat (first | refine g_op rfl ?_ | refine g_then ?_ | refine g_nil ?_ | refine g_opS rfl ?_ | refine g_open ?_ | refine g_ret ?_ | refine g_thenRet ?_)
      exact g_retV rfl rfl
    · exact absurd h1 (by simp [hbad])
  have hgood : (askedL u k).1 = 0 := by simpa using hbad
  obtain ⟨hch, has, i, X, rfl, hX, hok⟩ := asked_ok hgood
  have hpos := check_pos hch hX
  have hil : i < fn := by rw [hfn]; exact (List.getElem?_eq_some_iff.1 hX).1
  have had : AddrIs fa fb fo := ⟨hfa (ne_of_get hX)⟩
  have hli : LtIs i fn := ⟨hil⟩
  obtain ⟨cs, hcs, bv, rfl, hpi, hri, hbv⟩ := hfel i X hX
  have hci : CellsIs w0 fb (fo + i * 4) _ := ⟨hcs⟩
  have hbv0 := hbv
  obtain ⟨ba, bn, bc, _, _, rfl, hbn, _⟩ := hbv
  have h24 := (hl.2 X (List.mem_of_getElem? hX)).1
  refine g_callE (val := fun x : Nat => .tuple #[.slice (some ⟨x, 0, none⟩) X.blocks.length X.blocks.length, .agg #[.int .i64 0, .int .i64 0]]) (E := fun x => [Ent.vec (some ⟨x, 0, none⟩) X.blocks.length X.blocks.length 4 1 ((seenOf X.blocks 0).map .bool)]) (φ := fun _ => True) rfl (fun w hw =>
    reach_ok u hl i hgood X hX hok hpos _ _ w (hg0.keep keeps_global hw.chg) (hf0.keep keeps_func hw.chg) (hways.keep hw.chg)) fun ob _ => ?_
  simp only [List.cons_append, List.nil_append]
  rw [← hbn]
  repeat (first | refine g_op rfl ?_ | refine g_then ?_ | refine g_nil ?_ | refine g_region ?_ | refine g_seq ?_ | refine g_alloc rfl fun _ _ => ?_ | refine g_storeAgg ?_)
  rename_i p6 _
  refine g_callV rfl (fun w hw => asked_c u hl i _ _ w (hg0.keep keeps_global hw.chg) (hf0.keep keeps_func hw.chg) (hways.keep hw.chg)) ?_
  rw [has]
  repeat (first | refine g_op rfl ?_ | refine g_then ?_ | refine g_nil ?_ | refine g_region ?_ | refine g_seq ?_ | refine g_alloc rfl fun _ _ => ?_ | refine g_storeAgg ?_ | refine g_skip ?_ | refine g_condF ?_)
  rename_i p7 _
  refine g_callE (val := fun x : Option Addr × Nat × List Nat => .slice x.1 x.2.2.length x.2.1) (E := fun x => [Ent.vec x.1 x.2.2.length x.2.1 3 1 (x.2.2.map intN)]) (φ := fun x => FromR X.blocks (-1) 0 x.2.2) rfl (fun w hw => reached_c _ _ _ X.blocks _ ⟨_, _, _, rfl⟩ w (hbv0.keep keeps_block hw.chg) (by omega) hok hpos) fun x hx => ?_
  obtain ⟨xa, xc, l⟩ := x
  simp only [List.cons_append, List.nil_append] at hx ⊢
  have hlb : l.length ≤ X.blocks.length := nodup_len _ _ hx.1 hx.2.1
  repeat (first | refine g_op rfl ?_ | refine g_then ?_ | refine g_nil ?_ | refine g_region ?_ | refine g_seq ?_)
  refine g_cond (fun h2 => ?_) (fun h2 => ?_)
  · exact absurd h2 (by simp)
  repeat (first | refine g_op rfl ?_ | refine g_then ?_ | refine g_nil ?_ | refine g_region ?_ | refine g_seq ?_ | refine g_block ?_ | refine g_skip ?_)
  refine g_loop (fun (j : Nat) => j ≤ bn) (fun j => [(9, .int .i64 j), (8, .slice xa l.length xc), (5, .slice (some ⟨ob, 0, none⟩) bn bn), (6, .pointer (some ⟨p6, 0, none⟩)), (7, .pointer (some ⟨p7, 0, none⟩)), (4, .bool false)])
    (fun _ => [Ent.vec xa l.length xc 3 1 (l.map intN), Ent.box p7 [.int .i64 0, .int .i64 0] 29, Ent.box p6 [.int .i64 0, .int .i64 0] 29, Ent.vec (some ⟨ob, 0, none⟩) bn bn 4 1 ((seenOf X.blocks 0).map .bool)]) (fun j => bn - j) 0 (Nat.zero_le _) (g_done (by repeat (first | exact trivial | refine ⟨rfl, ?_⟩)) (by simp)) fun j hj => ?_
  repeat (first | refine g_op rfl ?_ | refine g_then ?_ | refine g_nil ?_ | refine g_region ?_ | refine g_seq ?_)
  refine g_cond (fun h2 => ?_) (fun h2 => ?_)
  · have hjl : j < bn := by simpa using h2
    have hlj : LtIs j bn := ⟨hjl⟩
    have hea : ElAt (seenOf X.blocks 0) j (decide (Rch X.blocks (-1) 0 j)) := ⟨seenOf_get (by omega)⟩
    repeat (first | refine g_then ?_ | refine g_seq ?_ | refine g_block ?_ | refine g_skip ?_)
    refine g_draw mixed (by kernel_rfl) ?_
    repeat (refine q_op rfl ?_)
    refine q_call rfl (fun w hw => has_c _ (l.map (fun x : Nat => (x : Int))) j w (ints_sl hw (k := 0) rfl rfl (by omega) fun y hy => by have := hx.2.1 y hy; omega)) ?_
    rw [show decide ((j : Int) ∈ l.map (fun x : Nat => (x : Int))) = decide (Rch X.blocks (-1) 0 j) by rw [decide_eq_decide, mem_ints, hx.2.2 j]; simp]
    repeat (first | refine q_op rfl ?_ | refine q_nil ?_)
    repeat (refine g_then ?_)
    refine g_cond (fun h3 => ?_) (fun h3 => ?_)
    · exact absurd h3 (by simp)
    · repeat (first | refine g_op rfl ?_ | refine g_then ?_ | refine g_nil ?_ | refine g_region ?_ | refine g_opS rfl ?_ | refine g_inBlock ?_ | refine g_skip ?_ | refine g_add rfl (by omega) (by omega) ?_)
      exact g_next (j + 1) hjl (by omega) (by repeat (first | exact trivial | refine ⟨rfl, ?_⟩)) (List.Sublist.refl _)
  · repeat (first | refine g_op rfl ?_ | refine g_then ?_ | refine g_region ?_ | refine g_seq ?_ | refine g_exit ?_ | refine g_thenExit ?_ | refine g_exitHere ?_)
    rw [show (decide ((0 : Int) = 0) && decide ((0 : Int) = 0)) = true from rfl]
    repeat (first | refine g_op rfl ?_ | refine g_then ?_ | refine g_nil ?_ | refine g_opS rfl ?_ | refine g_ret ?_)
    exact g_retV rfl rfl
end Go.Proofs.YtebajiafdkokjaaDoor

/- dom.sure: for each block the table of the blocks that every way to an end meets. -/
namespace Go.Proofs.YtebajiafdkokjaaDoor
open Go Go.RowKit
attribute [local irreducible] wpListIn Code.wpIn Exit.then Exit.inBlock bodyPost wpQuiet wpAnyIn
set_option maxHeartbeats 4000000

def entM (n : Nat) (f : Nat → List Bool) (q : Nat × Nat) : Ent := Ent.vec (some ⟨q.1, 0, none⟩) n n 4 1 ((f q.2).map .bool)
theorem entM_get {n b p : Nat} {ps : List Nat} (h : ps[b]? = some p) (f : Nat → List Bool) : (ps.zipIdx.map (entM n f))[b]? = some (Ent.vec (some ⟨p, 0, none⟩) n n 4 1 ((f b).map .bool)) := by
  rw [List.getElem?_map, List.getElem?_zipIdx, h]
  simp [entM]
theorem entM_set {n b p : Nat} {ps : List Nat} (h : ps[b]? = some p) (f : Nat → List Bool) (l : List Bool) : (ps.zipIdx.map (entM n f)).set b (Ent.vec (some ⟨p, 0, none⟩) n n 4 1 (l.map .bool)) = ps.zipIdx.map (entM n (fun i => if i = b then l else f i)) := by
  apply List.ext_getElem?
  intro i
  rw [List.getElem?_set]
  have hlt : b < ps.length := (List.getElem?_eq_some_iff.1 h).1
  by_cases hib : b = i
  · subst hib
    rw [entM_get h]
    have h2 := (List.getElem?_eq_some_iff.1 h).2
    simp [hlt, entM, h2]
  · rw [if_neg hib]
    rw [List.getElem?_map, List.getElem?_map, List.getElem?_zipIdx]
    cases hp : ps[i]? with
    | none => simp
    | some q => simp [entM, Ne.symm hib]
open Classical in
noncomputable def rowTo (bl : List LBlock) (n b c : Nat) : List Bool := (List.range n).map fun d => decide (d < c ∧ Sure bl b d)
theorem rowTo_set {bl : List LBlock} {n b c : Nat} {v : Bool} (hc : c < n) (hv : v = true ↔ Sure bl b c) : (rowTo bl n b c).set c v = rowTo bl n b (c + 1) := by
  classical
  apply List.ext_getElem?
  intro d
  rw [List.getElem?_set]
  simp only [rowTo, List.length_map, List.length_range, List.getElem?_map]
  by_cases hd : c = d
  · subst hd
    simp only [if_true, hc, List.getElem?_range hc, Option.map_some]
    congr 1
    have : (c < c + 1 ∧ Sure bl b c) ↔ v = true := by rw [hv]; simp
    cases v
    · symm; rw [decide_eq_false_iff_not]; intro h; exact absurd (this.1 h) (by simp)
    · symm; rw [decide_eq_true_eq]; exact this.2 rfl
  · rw [if_neg hd]
    by_cases hdn : d < n
    · rw [List.getElem?_range hdn]
      simp only [Option.map_some, Option.some.injEq, decide_eq_decide]
      constructor
      · rintro ⟨h1, h2⟩; exact ⟨by omega, h2⟩
      · rintro ⟨h1, h2⟩; exact ⟨by omega, h2⟩
    · rw [List.getElem?_eq_none (by rw [List.length_range]; omega)]; rfl
theorem rowTo_get {bl : List LBlock} {n b c d : Nat} (hd : d < n) : ∃ y, (rowTo bl n b c)[d]? = some y := ⟨_, List.getElem?_eq_getElem (by simp [rowTo, hd])⟩
theorem rowTo_full {bl : List LBlock} {b : Nat} : rowTo bl bl.length b bl.length = sureRow bl b := by
  classical
  unfold rowTo sureRow
  apply List.map_congr_left
  intro d hd
  have : d < bl.length := by simpa using hd
  simp [this]
theorem rowTo_zero {bl : List LBlock} {n b : Nat} : rowTo bl n b 0 = List.replicate n false := by
  classical
  apply List.ext_getElem?
  intro d
  simp only [rowTo, List.getElem?_map, List.getElem?_replicate]
  by_cases hd : d < n
  · simp [hd]
  · rw [List.getElem?_eq_none (by rw [List.length_range]; omega)]; simp [hd]
/-- a table of rows of truth values, as one reads it -/
def tabB (bo n : Nat) (ps : List Nat) (f : Nat → List Bool) (w : World) : Prop := ∀ i p, ps[i]? = some p → w.cell? ⟨bo, i, none⟩ = some (valP n p) ∧ ∀ j v, (f i)[j]? = some v → w.cell? ⟨p, j, none⟩ = some (.bool v)
theorem sure_c (nm pa re : Value) (bl : List LBlock) (bs : Value) (w0 : World) (hbs : SlAt w0 bs 6 bl BlockV) (hlen : bl.length ≤ 100) (hok : GoodB bl) :
    Ret Tryd.prog 50 [.agg #[nm, pa, re, bs]] w0 fun u w' => ∃ x : Nat × (Nat → Prop) × List Nat, u = .slice (some ⟨x.1, 0, none⟩) bl.length bl.length ∧ Wd NoS w0 [⟨x.2.1, tabB x.1 bl.length x.2.2 (sureRow bl)⟩] w' ∧ x.2.2.length = bl.length := by
  classical
  have hbs0 := hbs
  obtain ⟨ba, n, bc, bb, bo', rfl, hn, hnc, hnb, hbc, hba, hel⟩ := hbs
  rw [← hn] at hlen ⊢
  refine ret_enter Tryd.func50 rfl Tryd.ntmps50 rfl (Wd.nil NoS w0) ?_
  repeat (first | refine g_op rfl ?_ | refine g_then ?_ | refine g_nil ?_ | refine g_region ?_ | refine g_seq ?_ | refine g_box rfl fun _ _ => ?_ | refine g_make rfl (by omega) (by omega) fun _ _ => ?_)
  rename_i p1 _ po _
  refine g_callE (val := fun p : Nat => .slice (some ⟨p, 0, none⟩) bl.length bl.length) (E := fun p => [Ent.vec (some ⟨p, 0, none⟩) bl.length bl.length 4 1 ((endsOf bl (-1)).map .bool)]) (φ := fun _ => True) rfl (fun w hw => ends_c _ _ _ bl _ (-1) w (hbs0.keep keeps_block hw.chg) (by omega) hok) fun pal _ => ?_
  rw [← hn]
  simp only [List.cons_append, List.nil_append]
  repeat (first | refine g_op rfl ?_ | refine g_then ?_ | refine g_nil ?_ | refine g_region ?_ | refine g_seq ?_ | refine g_block ?_)
  refine g_permH (List.Perm.swap _ _ _) ?_
  refine g_loop (fun (ps : List Nat) => ps.length ≤ n) (fun ps => [(17, .int .i64 ps.length), (16, .int .i64 n), (3, .slice (some ⟨po, 0, none⟩) n n), (4, .slice (some ⟨pal, 0, none⟩) n n), (1, .pointer (some ⟨p1, 0, none⟩))])
    (fun ps => Ent.vec (some ⟨po, 0, none⟩) n n 38 1 (ps.map (valP n) ++ List.replicate (n - ps.length) (.slice none 0 0)) :: Ent.vec (some ⟨pal, 0, none⟩) n n 4 1 ((endsOf bl (-1)).map .bool) :: Ent.box p1 [nm, pa, re, .slice ba n bc] 35 :: ps.zipIdx.map (entM n (fun i => rowTo bl n i 0)))
    (fun ps => n - ps.length) [] (Nat.zero_le _) (g_done (by repeat (first | exact trivial | refine ⟨rfl, ?_⟩)) (List.Sublist.refl _)) fun ps hps => ?_
  repeat (first | refine g_op rfl ?_ | refine g_then ?_ | refine g_nil ?_ | refine g_region ?_ | refine g_seq ?_)
  refine g_cond (fun h1 => ?_) (fun h1 => ?_)
  · have hlt : ps.length < n := by simpa using h1
    have hli : LtIs ps.length n := ⟨hlt⟩
    repeat (first | refine g_op rfl ?_ | refine g_then ?_ | refine g_nil ?_ | refine g_region ?_ | refine g_seq ?_ | refine g_block ?_ | refine g_skip ?_ | refine g_make rfl (by omega) (by omega) fun _ _ => ?_)
    rename_i pn _
    have hxs : XSet (ps.map (valP n) ++ List.replicate (n - ps.length) (.slice none 0 0)) (ps.length * 1) (.slice (some ⟨pn, 0, none⟩) n n) ((ps ++ [pn]).map (valP n) ++ List.replicate (n - (ps ++ [pn]).length) (.slice none 0 0)) := by
      refine ⟨?_, by simp; omega⟩
      rw [Nat.mul_one, List.set_append_right _ _ (by simp)]
      obtain ⟨m, hm⟩ : ∃ m, n - ps.length = m + 1 := ⟨n - ps.length - 1, by omega⟩
      have hm2 : n - (ps ++ [pn]).length = m := by simp; omega
      rw [hm, hm2]
      simp [List.replicate_succ, valP]
    repeat (first | refine g_then ?_ | refine g_nil ?_ | refine g_region ?_ | refine g_opS rfl ?_ | refine g_inBlock ?_ | refine g_add rfl (by omega) (by omega) ?_ | refine g_storeV ?_)
    refine g_permH (List.perm_append_singleton _ _).symm ?_
    refine g_next (ps ++ [pn]) (by simp; omega) (by simp; omega) ?_ ?_
    · simp only [List.length_append, List.length_singleton, Int.natCast_add]
      exact (by repeat (first | exact trivial | refine ⟨rfl, ?_⟩))
    · have : (ps ++ [pn]).zipIdx.map (entM n (fun i => rowTo bl n i 0)) = ps.zipIdx.map (entM n (fun i => rowTo bl n i 0)) ++ [Ent.vec (some ⟨pn, 0, none⟩) n n 4 1 (List.replicate n (.bool false))] := by
        simp [List.zipIdx_append, entM, rowTo_zero]
      rw [this]
      exact List.Sublist.refl _
  have hge : ps.length = n := by have := h1; simp at this; omega
  rw [show n - ps.length = 0 by omega, List.replicate_zero, List.append_nil]
  have rowP : ∀ d, d < n → ∃ pd, ps[d]? = some pd := fun d hd => ⟨_, List.getElem?_eq_getElem (by omega)⟩
  repeat (first | refine g_op rfl ?_ | refine g_then ?_ | refine g_nil ?_ | refine g_region ?_ | refine g_seq ?_ | refine g_block ?_ | refine g_exit ?_ | refine g_thenExit ?_ | refine g_exitHere ?_)
  refine g_loop (fun (c : Nat) => c ≤ n) (fun c => [(31, .int .i64 c), (30, .int .i64 n), (3, .slice (some ⟨po, 0, none⟩) n n), (4, .slice (some ⟨pal, 0, none⟩) n n), (1, .pointer (some ⟨p1, 0, none⟩))])
    (fun c => Ent.vec (some ⟨po, 0, none⟩) n n 38 1 (ps.map (valP n)) :: Ent.vec (some ⟨pal, 0, none⟩) n n 4 1 ((endsOf bl (-1)).map .bool) :: Ent.box p1 [nm, pa, re, .slice ba n bc] 35 :: ps.zipIdx.map (entM n (fun i => rowTo bl n i c)))
    (fun c => n - c) 0 (Nat.zero_le _) (g_done (by repeat (first | exact trivial | refine ⟨rfl, ?_⟩)) (List.Sublist.refl _)) fun c hc => ?_
  repeat (first | refine g_op rfl ?_ | refine g_then ?_ | refine g_nil ?_ | refine g_region ?_ | refine g_seq ?_)
  refine g_cond (fun h2 => ?_) (fun h2 => ?_)
  · have hcn : c < n := by simpa using h2
    repeat (first | refine g_op rfl ?_ | refine g_then ?_ | refine g_nil ?_ | refine g_region ?_ | refine g_seq ?_ | refine g_block ?_ | refine g_skip ?_)
    refine g_callE (val := fun p : Nat => .slice (some ⟨p, 0, none⟩) bl.length bl.length) (E := fun p => [Ent.vec (some ⟨p, 0, none⟩) bl.length bl.length 4 1 ((endsOf bl c).map .bool)]) (φ := fun _ => True) rfl (fun w hw => ends_c _ _ _ bl _ c w (hbs0.keep keeps_block hw.chg) (by omega) hok) fun pw _ => ?_
    rw [← hn]
    simp only [List.cons_append, List.nil_append]
    repeat (first | refine g_op rfl ?_ | refine g_then ?_ | refine g_nil ?_ | refine g_region ?_ | refine g_seq ?_ | refine g_block ?_)
    refine g_loop (fun (b : Nat) => b ≤ n) (fun b => [(40, .int .i64 b), (39, .int .i64 n), (7, .slice (some ⟨pw, 0, none⟩) n n), (6, .int .i64 c), (31, .int .i64 c), (30, .int .i64 n), (3, .slice (some ⟨po, 0, none⟩) n n), (4, .slice (some ⟨pal, 0, none⟩) n n), (1, .pointer (some ⟨p1, 0, none⟩))])
      (fun b => Ent.vec (some ⟨pw, 0, none⟩) n n 4 1 ((endsOf bl c).map .bool) :: Ent.vec (some ⟨po, 0, none⟩) n n 38 1 (ps.map (valP n)) :: Ent.vec (some ⟨pal, 0, none⟩) n n 4 1 ((endsOf bl (-1)).map .bool) :: Ent.box p1 [nm, pa, re, .slice ba n bc] 35 :: ps.zipIdx.map (entM n (fun i => rowTo bl n i (if i < b then c + 1 else c))))
      (fun b => n - b) 0 (Nat.zero_le _) (g_done (by repeat (first | exact trivial | refine ⟨rfl, ?_⟩)) (by simp)) fun b hb => ?_
    repeat (first | refine g_op rfl ?_ | refine g_then ?_ | refine g_nil ?_ | refine g_region ?_ | refine g_seq ?_)
    refine g_cond (fun h3 => ?_) (fun h3 => ?_)
    · have hbn : b < n := by simpa using h3
      obtain ⟨pb, hpb⟩ := rowP b hbn
      have hlb : LtIs b n := ⟨hbn⟩
      have hlc : LtIs c n := ⟨hcn⟩
      have hxa : XAt (ps.map (valP n)) (b * 1) (.slice (some ⟨pb, 0, none⟩) n n) := ⟨by simp [hpb, valP]⟩
      obtain ⟨av, hav⟩ : ∃ av, (endsOf bl (-1))[b]? = some av := ⟨_, endsOf_get (by omega)⟩
      obtain ⟨wv, hwv⟩ : ∃ wv, (endsOf bl c)[b]? = some wv := ⟨_, endsOf_get (by omega)⟩
      have hea : ElAt (endsOf bl (-1)) b av := ⟨hav⟩
      have hew : ElAt (endsOf bl c) b wv := ⟨hwv⟩
      rw [endsOf_get (by omega)] at hav hwv
      simp only [Option.some.injEq] at hav hwv
      obtain ⟨y, hy⟩ := rowTo_get (bl := bl) (b := b) (c := c) hcn
      have hey : ElAt (rowTo bl n b c) c y := ⟨hy⟩
      have hoa : OwnAt (ps.zipIdx.map (entM n (fun i => rowTo bl n i (if i < b then c + 1 else c)))) pb (0 + c * 1) b 0 (c * 1) n n 4 1 ((rowTo bl n b c).map .bool) := ⟨by rw [entM_get hpb]; simp, rfl⟩
      have hset : ∀ v : Bool, (v = true ↔ Sure bl b c) → SetAt (ps.zipIdx.map (entM n (fun i => rowTo bl n i (if i < b then c + 1 else c)))) b (Ent.vec (some ⟨pb, 0, none⟩) n n 4 1 (((rowTo bl n b c).set c v).map .bool)) (ps.zipIdx.map (entM n (fun i => rowTo bl n i (if i < b + 1 then c + 1 else c)))) := by
        intro v hv
        refine ⟨?_⟩
        rw [entM_set hpb, rowTo_set hcn hv]
        congr 2
        funext i
        by_cases hib : i = b
        · subst hib; simp
        · rw [if_neg hib]
          congr 1
          by_cases h : i < b
          · rw [if_pos h, if_pos (by omega)]
          · rw [if_neg h, if_neg (by omega)]
      repeat (first | refine g_op rfl ?_ | refine g_then ?_ | refine g_nil ?_ | refine g_region ?_ | refine g_seq ?_ | refine g_block ?_ | refine g_skip ?_)
      have hsub : ∀ T : List Ent, List.Sublist [Ent.vec (some ⟨pw, 0, none⟩) n n 4 1 ((endsOf bl c).map .bool), Ent.vec (some ⟨po, 0, none⟩) n n 38 1 (ps.map (valP n)), Ent.vec (some ⟨pal, 0, none⟩) n n 4 1 ((endsOf bl (-1)).map .bool), Ent.box p1 [nm, pa, re, .slice ba n bc] 35] (Ent.vec (some ⟨pw, 0, none⟩) n n 4 1 ((endsOf bl c).map .bool) :: Ent.vec (some ⟨po, 0, none⟩) n n 38 1 (ps.map (valP n)) :: Ent.vec (some ⟨pal, 0, none⟩) n n 4 1 ((endsOf bl (-1)).map .bool) :: Ent.box p1 [nm, pa, re, .slice ba n bc] 35 :: T) := fun T => List.sublist_append_left [_, _, _, _] T
      cases av
      · have hs := hset false (by simp only [Sure, reduceCtorEq, false_iff]; intro h; exact absurd h.1 (by simpa using hav))
        refine g_drawH [Ent.vec (some ⟨pw, 0, none⟩) n n 4 1 ((endsOf bl c).map .bool), Ent.vec (some ⟨po, 0, none⟩) n n 38 1 (ps.map (valP n)), Ent.vec (some ⟨pal, 0, none⟩) n n 4 1 ((endsOf bl (-1)).map .bool), Ent.box p1 [nm, pa, re, .slice ba n bc] 35] mixed (hsub _) ?_
        refine h_take 0 rfl (by decide +kernel) (hsub _) ?_
        refine h_take 1 rfl (by decide +kernel) (hsub _) ?_
        refine h_take 2 rfl (by decide +kernel) (hsub _) ?_
        refine h_take 3 rfl (by decide +kernel) (hsub _) ?_
        refine h_take 4 rfl (by decide +kernel) (hsub _) ?_
        refine h_take 5 rfl (by decide +kernel) (hsub _) ?_
        refine h_take 6 rfl (by decide +kernel) (hsub _) ?_
        refine h_take 7 rfl (by decide +kernel) (hsub _) ?_
        refine h_take 8 rfl (by decide +kernel) (hsub _) ?_
        refine h_take 9 rfl (by decide +kernel) (hsub _) ?_
        refine h_takeP 10 rfl (by decide +kernel) (hsub _) ?_
        refine h_takeP 11 rfl (by decide +kernel) (hsub _) ?_
        refine h_takeP 12 rfl (by decide +kernel) (hsub _) ?_
        refine h_takeP 13 rfl (by decide +kernel) (hsub _) ?_
        refine h_takeP 14 rfl (by decide +kernel) (hsub _) ?_
        refine h_take 15 rfl (by decide +kernel) (hsub _) ?_
        refine h_take 16 rfl (by decide +kernel) (hsub _) ?_
        refine h_storeV 17 (by decide +kernel) (by decide +kernel) (hsub _) ?_
        repeat (first | refine g_then ?_ | refine g_nil ?_ | refine g_region ?_ | refine g_opS rfl ?_ | refine g_inBlock ?_ | refine g_add rfl (by omega) (by omega) ?_)
        exact g_next (b + 1) hbn (by omega) (by repeat (first | exact trivial | refine ⟨rfl, ?_⟩)) (List.Sublist.refl _)
      · cases wv
        · have hs := hset true (by simp only [Sure, true_iff]; exact ⟨by simpa using hav, by simpa using hwv⟩)
          refine g_drawH [Ent.vec (some ⟨pw, 0, none⟩) n n 4 1 ((endsOf bl c).map .bool), Ent.vec (some ⟨po, 0, none⟩) n n 38 1 (ps.map (valP n)), Ent.vec (some ⟨pal, 0, none⟩) n n 4 1 ((endsOf bl (-1)).map .bool), Ent.box p1 [nm, pa, re, .slice ba n bc] 35] mixed (hsub _) ?_
          refine h_take 0 rfl (by decide +kernel) (hsub _) ?_
          refine h_take 1 rfl (by decide +kernel) (hsub _) ?_
          refine h_take 2 rfl (by decide +kernel) (hsub _) ?_
          refine h_take 3 rfl (by decide +kernel) (hsub _) ?_
          refine h_take 4 rfl (by decide +kernel) (hsub _) ?_
          refine h_take 5 rfl (by decide +kernel) (hsub _) ?_
          refine h_take 6 rfl (by decide +kernel) (hsub _) ?_
          refine h_take 7 rfl (by decide +kernel) (hsub _) ?_
          refine h_take 8 rfl (by decide +kernel) (hsub _) ?_
          refine h_take 9 rfl (by decide +kernel) (hsub _) ?_
          refine h_takeG 10 rfl (by decide +kernel) (hsub _) ?_
          refine h_takeG 11 rfl (by decide +kernel) (hsub _) ?_
          refine h_takeG 12 rfl (by decide +kernel) (hsub _) ?_
          refine h_takeG 13 rfl (by decide +kernel) (hsub _) ?_
          refine h_takeG 14 rfl (by decide +kernel) (hsub _) ?_
          refine h_take 15 rfl (by decide +kernel) (hsub _) ?_
          refine h_take 16 rfl (by decide +kernel) (hsub _) ?_
          refine h_storeV 17 (by decide +kernel) (by decide +kernel) (hsub _) ?_
          repeat (first | refine g_then ?_ | refine g_nil ?_ | refine g_region ?_ | refine g_opS rfl ?_ | refine g_inBlock ?_ | refine g_add rfl (by omega) (by omega) ?_)
          exact g_next (b + 1) hbn (by omega) (by repeat (first | exact trivial | refine ⟨rfl, ?_⟩)) (List.Sublist.refl _)
        · have hs := hset false (by simp only [Sure, reduceCtorEq, false_iff]; intro h; exact h.2 (by simpa using hwv))
          refine g_drawH [Ent.vec (some ⟨pw, 0, none⟩) n n 4 1 ((endsOf bl c).map .bool), Ent.vec (some ⟨po, 0, none⟩) n n 38 1 (ps.map (valP n)), Ent.vec (some ⟨pal, 0, none⟩) n n 4 1 ((endsOf bl (-1)).map .bool), Ent.box p1 [nm, pa, re, .slice ba n bc] 35] mixed (hsub _) ?_
          refine h_take 0 rfl (by decide +kernel) (hsub _) ?_
          refine h_take 1 rfl (by decide +kernel) (hsub _) ?_
          refine h_take 2 rfl (by decide +kernel) (hsub _) ?_
          refine h_take 3 rfl (by decide +kernel) (hsub _) ?_
          refine h_take 4 rfl (by decide +kernel) (hsub _) ?_
          refine h_take 5 rfl (by decide +kernel) (hsub _) ?_
          refine h_take 6 rfl (by decide +kernel) (hsub _) ?_
          refine h_take 7 rfl (by decide +kernel) (hsub _) ?_
          refine h_take 8 rfl (by decide +kernel) (hsub _) ?_
          refine h_take 9 rfl (by decide +kernel) (hsub _) ?_
          refine h_takeG 10 rfl (by decide +kernel) (hsub _) ?_
          refine h_takeG 11 rfl (by decide +kernel) (hsub _) ?_
          refine h_takeG 12 rfl (by decide +kernel) (hsub _) ?_
          refine h_takeG 13 rfl (by decide +kernel) (hsub _) ?_
          refine h_takeG 14 rfl (by decide +kernel) (hsub _) ?_
          refine h_take 15 rfl (by decide +kernel) (hsub _) ?_
          refine h_take 16 rfl (by decide +kernel) (hsub _) ?_
          refine h_storeV 17 (by decide +kernel) (by decide +kernel) (hsub _) ?_
          repeat (first | refine g_then ?_ | refine g_nil ?_ | refine g_region ?_ | refine g_opS rfl ?_ | refine g_inBlock ?_ | refine g_add rfl (by omega) (by omega) ?_)
          exact g_next (b + 1) hbn (by omega) (by repeat (first | exact trivial | refine ⟨rfl, ?_⟩)) (List.Sublist.refl _)
    · have hgb : b = n := by have := h3; simp at this; omega
      repeat (first | refine g_then ?_ | refine g_nil ?_ | refine g_region ?_ | refine g_opS rfl ?_ | refine g_inBlock ?_ | refine g_add rfl (by omega) (by omega) ?_ | refine g_exit ?_ | refine g_thenExit ?_ | refine g_exitHere ?_)
      refine g_next (c + 1) hcn (by omega) (by repeat (first | exact trivial | refine ⟨rfl, ?_⟩)) ?_
      have : ps.zipIdx.map (entM n (fun i => rowTo bl n i (if i < b then c + 1 else c))) = ps.zipIdx.map (entM n (fun i => rowTo bl n i (c + 1))) := by
        apply List.map_congr_left
        intro q hq
        have hq2 : q.2 < ps.length := by
          obtain ⟨j, hj⟩ := List.getElem?_of_mem hq
          rw [List.getElem?_zipIdx] at hj
          obtain ⟨y, hy, rfl⟩ := Option.map_eq_some_iff.1 hj
          have := (List.getElem?_eq_some_iff.1 hy).1
          simpa using this
        simp only [entM]
        rw [if_pos (by omega)]
      rw [this]
      exact List.Sublist.cons _ (List.Sublist.refl _)
  · have hgc : c = n := by have := h2; simp at this; omega
    repeat (first | refine g_op rfl ?_ | refine g_then ?_ | refine g_nil ?_ | refine g_region ?_ | refine g_seq ?_ | refine g_exit ?_ | refine g_thenExit ?_ | refine g_exitHere ?_ | refine g_ret ?_)
    refine g_ret1 rfl fun w hw => ⟨(po, fps (Ent.vec (some ⟨po, 0, none⟩) n n 38 1 (ps.map (valP n)) :: ps.zipIdx.map (entM n (fun i => rowTo bl n i c))), ps), rfl, ?_, hge⟩
    have hw' : Wd NoS w0 ((Ent.vec (some ⟨po, 0, none⟩) n n 38 1 (ps.map (valP n)) :: ps.zipIdx.map (entM n (fun i => rowTo bl n i c))) ++ []) w := by
      rw [List.append_nil]
      exact hw.sub (List.Sublist.cons_cons _ (List.Sublist.cons _ (List.Sublist.cons _ (List.Sublist.refl _))))
    refine hw'.pack _ fun w2 hw2 i p hp => ⟨?_, fun j v hj => ?_⟩
    · have := hw2.vecCell (k := 0) (j := i) (v := valP n p) rfl (by rw [List.getElem?_map, hp]; rfl)
      simpa using this
    · have := hw2.vecCell (k := i + 1) (j := j) (v := .bool v) (by rw [List.getElem?_cons_succ]; exact entM_get hp _) (by
        rw [hgc, hn, rowTo_full, List.getElem?_map, hj]; rfl)
      simpa using this
end Go.Proofs.YtebajiafdkokjaaDoor

/- dom.Hang$1, turnerysame.Ints and Rows: what each returns. -/
namespace Go.Proofs.YtebajiafdkokjaaDoor
open Go Go.RowKit
attribute [local irreducible] wpListIn Code.wpIn Exit.then Exit.inBlock bodyPost wpQuiet wpAnyIn
set_option maxHeartbeats 2000000

theorem tabB_keep {po n : Nat} {ps : List Nat} {f : Nat → List Bool} {w w' : World} (h : Chg NoS w w') (ht : tabB po n ps f w) : tabB po n ps f w' := fun i p hp => ⟨cell_keep h (ht i p hp).1, fun j v hj => cell_keep h ((ht i p hp).2 j v hj)⟩
theorem hangOne_c (p8 p12 po n : Nat) (ps : List Nat) (f : Nat → List Bool) (hps : ps.length = n) (x : Int) (t c : Nat) (hx : x = t) (htn : t < n) (hcn : c < n) (v : Bool) (hv : (f t)[c]? = some v) (w0 : World) (h8 : CellsAt w0 p8 0 [.slice (some ⟨po, 0, none⟩) n n]) (h12 : CellsAt w0 p12 0 [.int .i64 c]) (ht : tabB po n ps f w0) :
    RetV Tryd.prog 52 [.int .i64 x, .pointer (some ⟨p8, 0, none⟩), .pointer (some ⟨p12, 0, none⟩)] w0 (.bool v) := by
  have hci8 : CellsIs w0 p8 0 _ := ⟨h8⟩
  have hci12 : CellsIs w0 p12 0 _ := ⟨h12⟩
  obtain ⟨p, hp⟩ : ∃ p, ps[t]? = some p := ⟨_, List.getElem?_eq_getElem (by omega)⟩
  obtain ⟨h1, h2⟩ := ht t p hp
  have hni : NatIs x t := ⟨hx⟩
  have hlt : LtIs t n := ⟨htn⟩
  have hlc : LtIs c n := ⟨hcn⟩
  have hc1 : CellIs w0 po (0 + t * 1) (.slice (some ⟨p, 0, none⟩) n n) := ⟨by rw [Nat.zero_add, Nat.mul_one]; exact h1⟩
  have hc2 : CellIs w0 p (0 + c * 1) (.bool v) := ⟨by rw [Nat.zero_add, Nat.mul_one]; exact h2 c v hv⟩
  refine ret_enter Tryd.func52 rfl Tryd.ntmps52 rfl (Wd.nil NoS w0) ?_
  repeat (first | refine g_op rfl ?_ | refine g_then ?_ | refine g_nil ?_ | refine g_region ?_ | refine g_seq ?_)
  refine g_draw mixed (by kernel_rfl) ?_
  repeat (first | refine q_op rfl ?_ | refine q_opS rfl ?_ | refine q_nil ?_)
  repeat (first | refine g_then ?_ | refine g_ret ?_)
  exact g_retV rfl rfl
theorem ints_c (a b : Value) (l m : List Int) (w0 : World) (ha : SlAt w0 a 1 l IntV) (hb : SlAt w0 b 1 m IntV) : RetV Tryd.prog 22 [a, b] w0 (.bool (decide (l = m))) := by
  obtain ⟨aa, an, ac, ab, ao, rfl, han, hanc, hanb, hac, haa, hael⟩ := ha
  obtain ⟨ba, bn, bc, bb, bo, rfl, hbn, hbnc, hbnb, hbc, hba, hbel⟩ := hb
  refine ret_enter Tryd.func22 rfl Tryd.ntmps22 rfl (Wd.nil NoS w0) ?_
  repeat (first | refine g_op rfl ?_ | refine g_then ?_ | refine g_nil ?_ | refine g_region ?_ | refine g_seq ?_)
  refine g_cond (fun h1 => ?_) (fun h1 => ?_)
  · repeat (first | refine g_then ?_ | refine g_nil ?_ | refine g_region ?_ | refine g_seq ?_ | refine g_opS rfl ?_ | refine g_ret ?_ | refine g_thenRet ?_)
    refine g_retV rfl ?_
    rw [decide_eq_false]
    rintro rfl
    simp at h1; omega
  have hlen : an = bn := by simp at h1; omega
  repeat (first | refine g_op rfl ?_ | refine g_then ?_ | refine g_nil ?_ | refine g_region ?_ | refine g_seq ?_ | refine g_block ?_ | refine g_skip ?_)
  refine g_loop (fun (i : Nat) => i ≤ an ∧ ∀ j, j < i → l[j]? = m[j]?) (fun i => [(5, .int .i64 i), (0, .slice aa an ac), (1, .slice ba bn bc)]) (fun _ => []) (fun i => an - i) 0 ⟨Nat.zero_le _, by simp⟩ (g_done (by repeat (first | exact trivial | refine ⟨rfl, ?_⟩)) (by simp)) fun i ⟨hi, hall⟩ => ?_
  repeat (first | refine g_op rfl ?_ | refine g_then ?_ | refine g_nil ?_ | refine g_region ?_ | refine g_seq ?_)
  refine g_cond (fun h2 => ?_) (fun h2 => ?_)
  · have hlt : i < an := by simpa using h2
    obtain ⟨x, hx⟩ := get_lt han hlt
    obtain ⟨y, hy⟩ := get_lt hbn (show i < bn by omega)
    have had : AddrIs aa ab ao := ⟨haa (ne_of_get hx)⟩
    have hbd : AddrIs ba bb bo := ⟨hba (ne_of_get hy)⟩
    have hli : LtIs i an := ⟨hlt⟩
    have hlj : LtIs i bn := ⟨by omega⟩
    obtain ⟨cs, hcs, rfl, _⟩ := hael i x hx
    obtain ⟨cs2, hcs2, rfl, _⟩ := hbel i y hy
    have hci : CellsIs w0 ab (ao + i * 1) _ := ⟨hcs⟩
    have hcj : CellsIs w0 bb (bo + i * 1) _ := ⟨hcs2⟩
    repeat (first | refine g_then ?_ | refine g_seq ?_ | refine g_block ?_ | refine g_skip ?_)
    refine g_draw mixed (by kernel_rfl) ?_
    repeat (first | refine q_op rfl ?_ | refine q_nil ?_)
    repeat (refine g_then ?_)
    refine g_cond (fun h3 => ?_) (fun h3 => ?_)
    · repeat (first | refine g_op rfl ?_ | refine g_then ?_ | refine g_nil ?_ | refine g_region ?_ | refine g_seq ?_ | refine g_ret ?_ | refine g_thenRet ?_ | refine g_blockRet ?_)
      refine g_retV rfl ?_
      rw [decide_eq_false]
      rintro rfl
      rw [hx] at hy
      simp only [Option.some.injEq] at hy
      simp [hy] at h3
    · have hxy : x = y := by simpa using h3
      repeat (first | refine g_op rfl ?_ | refine g_then ?_ | refine g_nil ?_ | refine g_region ?_ | refine g_opS rfl ?_ | refine g_inBlock ?_ | refine g_skip ?_ | refine g_add rfl (by omega) (by omega) ?_)
      refine g_next (i + 1) ⟨hlt, fun j hj => ?_⟩ (by omega) (by repeat (first | exact trivial | refine ⟨rfl, ?_⟩)) (by simp)
      by_cases hji : j = i
      · subst hji; rw [hx, hy, hxy]
      · exact hall j (by omega)
  · have hge : i = an := by have := h2; simp at this; omega
    repeat (first | refine g_op rfl ?_ | refine g_then ?_ | refine g_nil ?_ | refine g_region ?_ | refine g_seq ?_ | refine g_exit ?_ | refine g_thenExit ?_ | refine g_exitHere ?_ | refine g_ret ?_)
    refine g_retV rfl ?_
    rw [decide_eq_true]
    apply List.ext_getElem?
    intro j
    by_cases hj : j < an
    · exact hall j (by omega)
    · rw [List.getElem?_eq_none (by omega), List.getElem?_eq_none (by omega)]
theorem rows_c (a b : Value) (l m : List (List Int)) (w0 : World) (ha : SlAt w0 a 1 l RowV) (hb : SlAt w0 b 1 m RowV) : RetV Tryd.prog 25 [a, b] w0 (.bool (decide (l = m))) := by
  obtain ⟨aa, an, ac, ab, ao, rfl, han, hanc, hanb, hac, haa, hael⟩ := ha
  obtain ⟨ba, bn, bc, bb, bo, rfl, hbn, hbnc, hbnb, hbc, hba, hbel⟩ := hb
  refine ret_enter Tryd.func25 rfl Tryd.ntmps25 rfl (Wd.nil NoS w0) ?_
  repeat (first | refine g_op rfl ?_ | refine g_then ?_ | refine g_nil ?_ | refine g_region ?_ | refine g_seq ?_)
  refine g_cond (fun h1 => ?_) (fun h1 => ?_)
  · repeat (first | refine g_then ?_ | refine g_nil ?_ | refine g_region ?_ | refine g_seq ?_ | refine g_opS rfl ?_ | refine g_ret ?_ | refine g_thenRet ?_)
    refine g_retV rfl ?_
    rw [decide_eq_false]
    rintro rfl
    simp at h1; omega
  have hlen : an = bn := by simp at h1; omega
  repeat (first | refine g_op rfl ?_ | refine g_then ?_ | refine g_nil ?_ | refine g_region ?_ | refine g_seq ?_ | refine g_block ?_ | refine g_skip ?_)
  refine g_loop (fun (i : Nat) => i ≤ an ∧ ∀ j, j < i → l[j]? = m[j]?) (fun i => [(5, .int .i64 i), (0, .slice aa an ac), (1, .slice ba bn bc)]) (fun _ => []) (fun i => an - i) 0 ⟨Nat.zero_le _, by simp⟩ (g_done (by repeat (first | exact trivial | refine ⟨rfl, ?_⟩)) (by simp)) fun i ⟨hi, hall⟩ => ?_
  repeat (first | refine g_op rfl ?_ | refine g_then ?_ | refine g_nil ?_ | refine g_region ?_ | refine g_seq ?_)
  refine g_cond (fun h2 => ?_) (fun h2 => ?_)
  · have hlt : i < an := by simpa using h2
    obtain ⟨x, hx⟩ := get_lt han hlt
    obtain ⟨y, hy⟩ := get_lt hbn (show i < bn by omega)
    have had : AddrIs aa ab ao := ⟨haa (ne_of_get hx)⟩
    have hbd : AddrIs ba bb bo := ⟨hba (ne_of_get hy)⟩
    have hli : LtIs i an := ⟨hlt⟩
    have hlj : LtIs i bn := ⟨by omega⟩
    obtain ⟨cs, hcs, v, rfl, hv⟩ := hael i x hx
    obtain ⟨cs2, hcs2, u, rfl, hu⟩ := hbel i y hy
    have hv0 := hv
    have hu0 := hu
    obtain ⟨_, _, _, _, _, rfl, _⟩ := hv
    obtain ⟨_, _, _, _, _, rfl, _⟩ := hu
    have hci : CellsIs w0 ab (ao + i * 1) _ := ⟨hcs⟩
    have hcj : CellsIs w0 bb (bo + i * 1) _ := ⟨hcs2⟩
    repeat (first | refine g_then ?_ | refine g_seq ?_ | refine g_block ?_ | refine g_skip ?_)
    refine g_draw mixed (by kernel_rfl) ?_
    repeat (refine q_op rfl ?_)
    refine q_call rfl (fun w hw => ints_c _ _ x y w (hv0.keep keeps_int hw.chg) (hu0.keep keeps_int hw.chg)) ?_
    repeat (first | refine q_op rfl ?_ | refine q_nil ?_)
    repeat (refine g_then ?_)
    refine g_cond (fun h3 => ?_) (fun h3 => ?_)
    · repeat (first | refine g_op rfl ?_ | refine g_then ?_ | refine g_nil ?_ | refine g_region ?_ | refine g_seq ?_ | refine g_ret ?_ | refine g_thenRet ?_ | refine g_blockRet ?_)
      refine g_retV rfl ?_
      rw [decide_eq_false]
      rintro rfl
      rw [hx] at hy
      simp only [Option.some.injEq] at hy
      simp [hy] at h3
    · have hxy : x = y := by simpa using h3
      repeat (first | refine g_op rfl ?_ | refine g_then ?_ | refine g_nil ?_ | refine g_region ?_ | refine g_opS rfl ?_ | refine g_inBlock ?_ | refine g_skip ?_ | refine g_add rfl (by omega) (by omega) ?_)
      refine g_next (i + 1) ⟨hlt, fun j hj => ?_⟩ (by omega) (by repeat (first | exact trivial | refine ⟨rfl, ?_⟩)) (by simp)
      by_cases hji : j = i
      · subst hji; rw [hx, hy, hxy]
      · exact hall j (by omega)
  · have hge : i = an := by have := h2; simp at this; omega
    repeat (first | refine g_op rfl ?_ | refine g_then ?_ | refine g_nil ?_ | refine g_region ?_ | refine g_seq ?_ | refine g_exit ?_ | refine g_thenExit ?_ | refine g_exitHere ?_ | refine g_ret ?_)
    refine g_retV rfl ?_
    rw [decide_eq_true]
    apply List.ext_getElem?
    intro j
    by_cases hj : j < an
    · exact hall j (by omega)
    · rw [List.getElem?_eq_none (by omega), List.getElem?_eq_none (by omega)]
end Go.Proofs.YtebajiafdkokjaaDoor
