/- dom.ends: from which blocks an end can be reached. -/
import Derived.Test.YtebajiafdkokjaaDoorCheckB
import Derived.Test.YtebajiafdkokjaaDoorSure
import Derived.Test.YtebajiafdkokjaaDoorGraphB
namespace Go.Proofs.YtebajiafdkokjaaDoor
open Go Go.RowKit
attribute [local irreducible] wpListIn Code.wpIn Exit.then Exit.inBlock bodyPost wpQuiet wpAnyIn
set_option maxHeartbeats 2000000

theorem bools_sl {S : Nat → Prop} {w0 w : World} {H : List Ent} {k c n e : Nat} {a : Option Addr} {l : List Bool} (h : Wd S w0 H w) (hk : H[k]? = some (Ent.vec a n c e 1 (l.map .bool))) (hn : n = l.length) (hb : n ≤ 100000) : SlAt w (.slice a n c) 1 l BoolV := by
  refine h.slAt hk hn (by omega) fun i x hx => ⟨[.bool x], fun j v hj => ?_, rfl⟩
  match j, hj with
  | 0, hj => simpa [hx] using hj
theorem endsOne_c (b _n : Nat) (v : Value) (l : List Bool) (x : Int) (k : Nat) (hk : x = k) (hkl : k < l.length) (w0 : World) (hc : CellsAt w0 b 0 [v]) (hv : SlAt w0 v 1 l BoolV) :
    RetV Tryd.prog 118 [.int .i64 x, .pointer (some ⟨b, 0, none⟩)] w0 (.bool (l[x.toNat]?.getD false)) := by
  obtain ⟨a, m, c, vb, vo, rfl, hn, hnc, hnb, hcc, ha, hel⟩ := hv
  have hci : CellsIs w0 b 0 _ := ⟨hc⟩
  obtain ⟨y, hy⟩ : ∃ y, l[k]? = some y := ⟨_, List.getElem?_eq_getElem hkl⟩
  have had : AddrIs a vb vo := ⟨ha (ne_of_get hy)⟩
  have hli : LtIs k m := ⟨by omega⟩
  have hni : NatIs x k := ⟨hk⟩
  obtain ⟨cs, hcs, rfl⟩ := hel k y hy
  have hcii : CellsIs w0 vb (vo + k * 1) _ := ⟨hcs⟩
  refine ret_enter Tryd.func118 rfl Tryd.ntmps118 rfl (Wd.nil NoS w0) ?_
  repeat (first | refine g_op rfl ?_ | refine g_then ?_ | refine g_nil ?_ | refine g_region ?_ | refine g_seq ?_ | refine g_opS rfl ?_ | refine g_open ?_ | refine g_pass rfl ?_ | refine g_store ?_ | refine g_box rfl fun _ _ => ?_ | refine g_alloc rfl fun _ _ => ?_ | refine g_allocS rfl fun _ _ => ?_ | refine g_storeAgg ?_ | refine g_inBlock ?_ | refine g_block ?_ | refine g_skip ?_ | refine g_condT ?_ | refine g_condF ?_ | refine g_add rfl (by omega) (by omega) ?_ | refine g_sub rfl (by omega) (by omega) ?_ | refine g_exit ?_ | refine g_thenExit ?_ | refine g_exitHere ?_ | refine g_exitOn rfl ?_ | refine g_ret ?_ | refine g_thenRet ?_ | refine g_blockRet ?_ | refine g_passS rfl ?_ | refine g_pass0 ?_ | refine g_passU rfl ?_ | refine g_passUS rfl ?_ | refine g_storeV ?_ | refine g_build1 rfl rfl fun _ _ => ?_ | refine g_buildN rfl rfl fun _ _ => ?_ | refine g_make rfl (by omega) (by omega) fun _ _ => ?_)
  exact g_retV rfl (by rw [hk]; simp [hy])

theorem ends_c (nm pa re : Value) (bl : List LBlock) (bs : Value) (wo : Int) (w0 : World) (hbs : SlAt w0 bs 6 bl BlockV) (hlen : bl.length ≤ 100) (hok : GoodB bl) :
    Ret Tryd.prog 85 [.agg #[nm, pa, re, bs], .int .i64 wo] w0 fun u w' => ∃ p : Nat, u = .slice (some ⟨p, 0, none⟩) bl.length bl.length ∧ Wd NoS w0 [Ent.vec (some ⟨p, 0, none⟩) bl.length bl.length 4 1 ((endsOf bl wo).map .bool)] w' ∧ True := by
  obtain ⟨ba, n, bc, bb, bo', rfl, hn, hnc, hnb, hbc, hba, hel⟩ := hbs
  rw [← hn] at hlen ⊢
  refine ret_enter Tryd.func85 rfl Tryd.ntmps85 rfl (Wd.nil NoS w0) ?_
  repeat (first | refine g_op rfl ?_ | refine g_then ?_ | refine g_nil ?_ | refine g_region ?_ | refine g_seq ?_ | refine g_opS rfl ?_ | refine g_open ?_ | refine g_pass rfl ?_ | refine g_store ?_ | refine g_box rfl fun _ _ => ?_ | refine g_alloc rfl fun _ _ => ?_ | refine g_allocS rfl fun _ _ => ?_ | refine g_storeAgg ?_ | refine g_inBlock ?_ | refine g_block ?_ | refine g_skip ?_ | refine g_condT ?_ | refine g_condF ?_ | refine g_add rfl (by omega) (by omega) ?_ | refine g_sub rfl (by omega) (by omega) ?_ | refine g_exit ?_ | refine g_thenExit ?_ | refine g_exitHere ?_ | refine g_exitOn rfl ?_ | refine g_ret ?_ | refine g_thenRet ?_ | refine g_blockRet ?_ | refine g_passS rfl ?_ | refine g_pass0 ?_ | refine g_passU rfl ?_ | refine g_passUS rfl ?_ | refine g_storeV ?_ | refine g_build1 rfl rfl fun _ _ => ?_ | refine g_buildN rfl rfl fun _ _ => ?_ | refine g_make rfl (by omega) (by omega) fun _ _ => ?_)
  rename_i p2 _ pv _ p5 _
  rw [show List.replicate n (Value.bool false) = (List.replicate n false).map Value.bool by simp]
  refine g_loop (fun (x : Bool × List Bool) => x.2.length = n ∧ (∀ y, x.2[y]? = some true → CanEnd bl wo y) ∧ (x.1 = false → ∀ y, y < n → (y : Int) ≠ wo → (kindOf bl y = 1 ∨ ∃ t, Edge bl y t ∧ x.2[t]? = some true) → x.2[y]? = some true))
    (fun x => [(6, .bool x.1), (5, .pointer (some ⟨p5, 0, none⟩)), (2, .pointer (some ⟨p2, 0, none⟩)), (1, .int .i64 wo)])
    (fun x => [Ent.box p5 [.slice (some ⟨pv, 0, none⟩) n n] 38, Ent.vec (some ⟨pv, 0, none⟩) n n 4 1 (x.2.map .bool), Ent.box p2 [nm, pa, re, .slice ba n bc] 35])
    (fun x => unseen x.2 * 2 + (if x.1 then 1 else 0)) (true, List.replicate n false) ⟨by simp, fun y hy => by simp [List.getElem?_replicate] at hy, by simp⟩ (g_done (by repeat (first | exact trivial | refine ⟨rfl, ?_⟩)) (List.Sublist.refl _)) fun x ⟨hol, hsound, hclosed⟩ => ?_
  obtain ⟨more, out⟩ := x
  simp only at hol hsound hclosed ⊢
  cases more
  case false =>
    have hcl := hclosed rfl
    have hfin : out = endsOf bl wo := by
      classical
      apply List.ext_getElem?
      intro y
      by_cases hy : y < n
      · rw [endsOf_get (by omega)]
        obtain ⟨sv, hsv⟩ : ∃ sv, out[y]? = some sv := ⟨_, List.getElem?_eq_getElem (by omega)⟩
        rw [hsv]
        congr 1
        cases sv
        · symm
          rw [decide_eq_false_iff_not]
          intro hr
          have := canEnd_closed (p := fun y => out[y]? = some true) (fun x hx hw hk => hcl x (by omega) hw (.inl hk)) (fun x y hx hw he hp => hcl x (by omega) hw (.inr ⟨y, he, hp⟩)) (by omega) hok hr
          rw [hsv] at this
          cases this
        · symm
          rw [decide_eq_true_eq]
          exact hsound y hsv
      · rw [List.getElem?_eq_none (by omega), List.getElem?_eq_none (by rw [endsOf_length]; omega)]
    repeat (first | refine g_op rfl ?_ | refine g_then ?_ | refine g_nil ?_ | refine g_region ?_ | refine g_seq ?_ | refine g_opS rfl ?_ | refine g_open ?_ | refine g_pass rfl ?_ | refine g_store ?_ | refine g_box rfl fun _ _ => ?_ | refine g_alloc rfl fun _ _ => ?_ | refine g_allocS rfl fun _ _ => ?_ | refine g_storeAgg ?_ | refine g_inBlock ?_ | refine g_block ?_ | refine g_skip ?_ | refine g_condT ?_ | refine g_condF ?_ | refine g_add rfl (by omega) (by omega) ?_ | refine g_sub rfl (by omega) (by omega) ?_ | refine g_exit ?_ | refine g_thenExit ?_ | refine g_exitHere ?_ | refine g_exitOn rfl ?_ | refine g_ret ?_ | refine g_thenRet ?_ | refine g_blockRet ?_ | refine g_passS rfl ?_ | refine g_pass0 ?_ | refine g_passU rfl ?_ | refine g_passUS rfl ?_ | refine g_storeV ?_ | refine g_build1 rfl rfl fun _ _ => ?_ | refine g_buildN rfl rfl fun _ _ => ?_ | refine g_make rfl (by omega) (by omega) fun _ _ => ?_)
    refine g_ret1 rfl fun w hw => ⟨pv, rfl, ?_, trivial⟩
    rw [← hfin]
    exact hw.sub (List.Sublist.cons _ (List.Sublist.cons_cons _ (List.Sublist.cons _ (List.Sublist.refl _))))
  clear hclosed
  repeat (first | refine g_op rfl ?_ | refine g_then ?_ | refine g_nil ?_ | refine g_region ?_ | refine g_seq ?_ | refine g_opS rfl ?_ | refine g_open ?_ | refine g_pass rfl ?_ | refine g_store ?_ | refine g_box rfl fun _ _ => ?_ | refine g_alloc rfl fun _ _ => ?_ | refine g_allocS rfl fun _ _ => ?_ | refine g_storeAgg ?_ | refine g_inBlock ?_ | refine g_block ?_ | refine g_skip ?_ | refine g_condT ?_ | refine g_condF ?_ | refine g_add rfl (by omega) (by omega) ?_ | refine g_sub rfl (by omega) (by omega) ?_ | refine g_exit ?_ | refine g_thenExit ?_ | refine g_exitHere ?_ | refine g_exitOn rfl ?_ | refine g_ret ?_ | refine g_thenRet ?_ | refine g_blockRet ?_ | refine g_passS rfl ?_ | refine g_pass0 ?_ | refine g_passU rfl ?_ | refine g_passUS rfl ?_ | refine g_storeV ?_ | refine g_build1 rfl rfl fun _ _ => ?_ | refine g_buildN rfl rfl fun _ _ => ?_ | refine g_make rfl (by omega) (by omega) fun _ _ => ?_)
  refine g_loop (fun (x : Nat × Bool × List Bool) => x.1 ≤ n ∧ x.2.2.length = n ∧ (∀ y, x.2.2[y]? = some true → CanEnd bl wo y) ∧ (x.2.1 = false → x.2.2 = out ∧ ∀ y, y < x.1 → (y : Int) ≠ wo → (kindOf bl y = 1 ∨ ∃ t, Edge bl y t ∧ out[t]? = some true) → out[y]? = some true) ∧ (x.2.1 = true → unseen x.2.2 < unseen out))
    (fun x => [(18, .int .i64 x.1), (16, .slice ba n bc), (17, .int .i64 n), (6, .bool x.2.1), (5, .pointer (some ⟨p5, 0, none⟩)), (2, .pointer (some ⟨p2, 0, none⟩)), (1, .int .i64 wo)])
    (fun x => [Ent.box p5 [.slice (some ⟨pv, 0, none⟩) n n] 38, Ent.vec (some ⟨pv, 0, none⟩) n n 4 1 (x.2.2.map .bool), Ent.box p2 [nm, pa, re, .slice ba n bc] 35])
    (fun x => n - x.1) (0, false, out) ⟨Nat.zero_le _, hol, hsound, fun _ => ⟨rfl, by simp⟩, by simp⟩ (g_done (by repeat (first | exact trivial | refine ⟨rfl, ?_⟩)) (List.Sublist.refl _)) fun x ⟨hi, hol', hsound', hno, hyes⟩ => ?_
  obtain ⟨i, more', out'⟩ := x
  simp only at hi hol' hsound' hno hyes ⊢
  repeat (first | refine g_op rfl ?_ | refine g_then ?_ | refine g_nil ?_ | refine g_region ?_ | refine g_seq ?_ | refine g_opS rfl ?_ | refine g_open ?_ | refine g_pass rfl ?_ | refine g_store ?_ | refine g_box rfl fun _ _ => ?_ | refine g_alloc rfl fun _ _ => ?_ | refine g_allocS rfl fun _ _ => ?_ | refine g_storeAgg ?_ | refine g_inBlock ?_ | refine g_block ?_ | refine g_skip ?_ | refine g_condT ?_ | refine g_condF ?_ | refine g_add rfl (by omega) (by omega) ?_ | refine g_sub rfl (by omega) (by omega) ?_ | refine g_exit ?_ | refine g_thenExit ?_ | refine g_exitHere ?_ | refine g_exitOn rfl ?_ | refine g_ret ?_ | refine g_thenRet ?_ | refine g_blockRet ?_ | refine g_passS rfl ?_ | refine g_pass0 ?_ | refine g_passU rfl ?_ | refine g_passUS rfl ?_ | refine g_storeV ?_ | refine g_build1 rfl rfl fun _ _ => ?_ | refine g_buildN rfl rfl fun _ _ => ?_ | refine g_make rfl (by omega) (by omega) fun _ _ => ?_)
  refine g_cond (fun h1 => ?_) (fun h1 => ?_)
  · have hlt : i < n := by simpa using h1
    obtain ⟨B, hB⟩ := get_lt hn hlt
    have had : AddrIs ba bb bo' := ⟨hba (ne_of_get hB)⟩
    have hli : LtIs i n := ⟨hlt⟩
    obtain ⟨cs, hcs, pv', lv, tv, rfl, _, _, hphis, hlist, ht⟩ := hel i B hB
    obtain ⟨pa', pn, pc, _, _, rfl, _⟩ := hphis
    obtain ⟨la, ln, lc, _, _, rfl, _⟩ := hlist
    have ht0 := ht
    obtain ⟨ta, tn, tc, tb, to', rfl, htn, htnc, htnb, htc, hta, htel⟩ := ht
    have hci : CellsIs w0 bb (bo' + i * 6) _ := ⟨hcs⟩
    have hBok := hok B (List.mem_of_getElem? hB)
    have hkind : kindOf bl i = B.kind := by simp [kindOf, hB]
    obtain ⟨ov, hov⟩ : ∃ ov, out'[i]? = some ov := ⟨_, List.getElem?_eq_getElem (by omega)⟩
    have hea : ElAt out' i ov := ⟨hov⟩
    repeat (first | refine g_op rfl ?_ | refine g_then ?_ | refine g_nil ?_ | refine g_region ?_ | refine g_seq ?_ | refine g_opS rfl ?_ | refine g_open ?_ | refine g_pass rfl ?_ | refine g_store ?_ | refine g_box rfl fun _ _ => ?_ | refine g_alloc rfl fun _ _ => ?_ | refine g_allocS rfl fun _ _ => ?_ | refine g_storeAgg ?_ | refine g_inBlock ?_ | refine g_block ?_ | refine g_skip ?_ | refine g_condT ?_ | refine g_condF ?_ | refine g_add rfl (by omega) (by omega) ?_ | refine g_sub rfl (by omega) (by omega) ?_ | refine g_exit ?_ | refine g_thenExit ?_ | refine g_exitHere ?_ | refine g_exitOn rfl ?_ | refine g_ret ?_ | refine g_thenRet ?_ | refine g_blockRet ?_ | refine g_passS rfl ?_ | refine g_pass0 ?_ | refine g_passU rfl ?_ | refine g_passUS rfl ?_ | refine g_storeV ?_ | refine g_build1 rfl rfl fun _ _ => ?_ | refine g_buildN rfl rfl fun _ _ => ?_ | refine g_make rfl (by omega) (by omega) fun _ _ => ?_)
    generalize hk1 : decide (B.kind = 1) = k1
    refine g_joinTo 33 (.bool (k1 || B.to.any fun t => out'[t.toNat]?.getD false)) ?_ ?_
    · cases k1
      · repeat (first | refine g_op rfl ?_ | refine g_then ?_ | refine g_nil ?_ | refine g_region ?_ | refine g_seq ?_ | refine g_opS rfl ?_ | refine g_open ?_ | refine g_pass rfl ?_ | refine g_store ?_ | refine g_box rfl fun _ _ => ?_ | refine g_alloc rfl fun _ _ => ?_ | refine g_allocS rfl fun _ _ => ?_ | refine g_storeAgg ?_ | refine g_inBlock ?_ | refine g_block ?_ | refine g_skip ?_ | refine g_condT ?_ | refine g_condF ?_ | refine g_add rfl (by omega) (by omega) ?_ | refine g_sub rfl (by omega) (by omega) ?_ | refine g_exit ?_ | refine g_thenExit ?_ | refine g_exitHere ?_ | refine g_exitOn rfl ?_ | refine g_ret ?_ | refine g_thenRet ?_ | refine g_blockRet ?_ | refine g_passS rfl ?_ | refine g_pass0 ?_ | refine g_passU rfl ?_ | refine g_passUS rfl ?_ | refine g_storeV ?_ | refine g_build1 rfl rfl fun _ _ => ?_ | refine g_buildN rfl rfl fun _ _ => ?_ | refine g_make rfl (by omega) (by omega) fun _ _ => ?_)
        refine g_callV rfl (fun w hw => containsFI_c (f := 118) [.pointer (some ⟨p5, 0, none⟩)] (fun t => out'[t.toNat]?.getD false) _ B.to w (ht0.keep keeps_int hw.chg) fun w1 hw1 t ht => ?_) ?_
        · have htt := hBok.2 t ht
          exact endsOne_c p5 n _ out' t t.toNat (by omega) (by omega) w1 ((hw.boxCells p5).keep hw1) ((bools_sl hw (k := 2) rfl hol'.symm (by omega)).keep keeps_bool hw1)
        repeat (first | refine g_op rfl ?_ | refine g_then ?_ | refine g_nil ?_ | refine g_region ?_ | refine g_seq ?_ | refine g_opS rfl ?_ | refine g_open ?_ | refine g_pass rfl ?_ | refine g_store ?_ | refine g_box rfl fun _ _ => ?_ | refine g_alloc rfl fun _ _ => ?_ | refine g_allocS rfl fun _ _ => ?_ | refine g_storeAgg ?_ | refine g_inBlock ?_ | refine g_block ?_ | refine g_skip ?_ | refine g_condT ?_ | refine g_condF ?_ | refine g_add rfl (by omega) (by omega) ?_ | refine g_sub rfl (by omega) (by omega) ?_ | refine g_exit ?_ | refine g_thenExit ?_ | refine g_exitHere ?_ | refine g_exitOn rfl ?_ | refine g_ret ?_ | refine g_thenRet ?_ | refine g_blockRet ?_ | refine g_passS rfl ?_ | refine g_pass0 ?_ | refine g_passU rfl ?_ | refine g_passUS rfl ?_ | refine g_storeV ?_ | refine g_build1 rfl rfl fun _ _ => ?_ | refine g_buildN rfl rfl fun _ _ => ?_ | refine g_make rfl (by omega) (by omega) fun _ _ => ?_)
        exact g_done (by repeat (first | exact trivial | refine ⟨rfl, ?_⟩)) (List.Sublist.refl _)
      · repeat (first | refine g_op rfl ?_ | refine g_then ?_ | refine g_nil ?_ | refine g_region ?_ | refine g_seq ?_ | refine g_opS rfl ?_ | refine g_open ?_ | refine g_pass rfl ?_ | refine g_store ?_ | refine g_box rfl fun _ _ => ?_ | refine g_alloc rfl fun _ _ => ?_ | refine g_allocS rfl fun _ _ => ?_ | refine g_storeAgg ?_ | refine g_inBlock ?_ | refine g_block ?_ | refine g_skip ?_ | refine g_condT ?_ | refine g_condF ?_ | refine g_add rfl (by omega) (by omega) ?_ | refine g_sub rfl (by omega) (by omega) ?_ | refine g_exit ?_ | refine g_thenExit ?_ | refine g_exitHere ?_ | refine g_exitOn rfl ?_ | refine g_ret ?_ | refine g_thenRet ?_ | refine g_blockRet ?_ | refine g_passS rfl ?_ | refine g_pass0 ?_ | refine g_passU rfl ?_ | refine g_passUS rfl ?_ | refine g_storeV ?_ | refine g_build1 rfl rfl fun _ _ => ?_ | refine g_buildN rfl rfl fun _ _ => ?_ | refine g_make rfl (by omega) (by omega) fun _ _ => ?_)
        exact g_done (by repeat (first | exact trivial | refine ⟨rfl, ?_⟩)) (List.Sublist.refl _)
    have hon : (k1 || B.to.any fun t => out'[t.toNat]?.getD false) = true ↔ (kindOf bl i = 1 ∨ ∃ t, Edge bl i t ∧ out'[t]? = some true) := by
      subst hk1
      simp only [Bool.or_eq_true, decide_eq_true_eq, List.any_eq_true, hkind]
      constructor
      · rintro (h | ⟨t, ht, ho⟩)
        · exact .inl h
        · refine .inr ⟨t.toNat, ?_, ?_⟩
          · unfold Edge
            rw [toOf_get hB]
            have := hBok.2 t ht
            rw [show ((t.toNat : Nat) : Int) = t by omega]
            exact ht
          · cases hq : out'[t.toNat]? with
            | none => rw [hq] at ho; simp at ho
            | some q => rw [hq] at ho; simp at ho; rw [ho]
      · rintro (h | ⟨t, he, ho⟩)
        · exact .inl h
        · unfold Edge at he
          rw [toOf_get hB] at he
          exact .inr ⟨(t : Int), he, by simp [ho]⟩
    generalize (k1 || B.to.any fun t => out'[t.toNat]?.getD false) = o at hon
    have stay : (o = true → (i : Int) ≠ wo → ov = true) → (i + 1 ≤ n ∧ out'.length = n ∧ (∀ y, out'[y]? = some true → CanEnd bl wo y) ∧ (more' = false → out' = out ∧ ∀ y, y < i + 1 → (y : Int) ≠ wo → (kindOf bl y = 1 ∨ ∃ t, Edge bl y t ∧ out[t]? = some true) → out[y]? = some true) ∧ (more' = true → unseen out' < unseen out)) := by
      intro hs
      refine ⟨hlt, hol', hsound', fun hm => ?_, hyes⟩
      obtain ⟨e, hall⟩ := hno hm
      refine ⟨e, fun y hy hw hc => ?_⟩
      by_cases hyi : y = i
      · subst hyi
        have := hs (hon.2 (by rw [e]; exact hc)) hw
        rw [← e, hov, this]
      · exact hall y (by omega) hw hc
    cases o
    · repeat (first | refine g_op rfl ?_ | refine g_then ?_ | refine g_nil ?_ | refine g_region ?_ | refine g_seq ?_ | refine g_opS rfl ?_ | refine g_open ?_ | refine g_pass rfl ?_ | refine g_store ?_ | refine g_box rfl fun _ _ => ?_ | refine g_alloc rfl fun _ _ => ?_ | refine g_allocS rfl fun _ _ => ?_ | refine g_storeAgg ?_ | refine g_inBlock ?_ | refine g_block ?_ | refine g_skip ?_ | refine g_condT ?_ | refine g_condF ?_ | refine g_add rfl (by omega) (by omega) ?_ | refine g_sub rfl (by omega) (by omega) ?_ | refine g_exit ?_ | refine g_thenExit ?_ | refine g_exitHere ?_ | refine g_exitOn rfl ?_ | refine g_ret ?_ | refine g_thenRet ?_ | refine g_blockRet ?_ | refine g_passS rfl ?_ | refine g_pass0 ?_ | refine g_passU rfl ?_ | refine g_passUS rfl ?_ | refine g_storeV ?_ | refine g_build1 rfl rfl fun _ _ => ?_ | refine g_buildN rfl rfl fun _ _ => ?_ | refine g_make rfl (by omega) (by omega) fun _ _ => ?_)
      exact g_next (i + 1, more', out') (stay (by simp)) (by simp only; omega) (by repeat (first | exact trivial | refine ⟨rfl, ?_⟩)) (List.Sublist.cons _ (List.Sublist.refl _))
    repeat (first | refine g_op rfl ?_ | refine g_then ?_ | refine g_nil ?_ | refine g_region ?_ | refine g_seq ?_ | refine g_opS rfl ?_ | refine g_open ?_ | refine g_pass rfl ?_ | refine g_store ?_ | refine g_box rfl fun _ _ => ?_ | refine g_alloc rfl fun _ _ => ?_ | refine g_allocS rfl fun _ _ => ?_ | refine g_storeAgg ?_ | refine g_inBlock ?_ | refine g_block ?_ | refine g_skip ?_ | refine g_condT ?_ | refine g_condF ?_ | refine g_add rfl (by omega) (by omega) ?_ | refine g_sub rfl (by omega) (by omega) ?_ | refine g_exit ?_ | refine g_thenExit ?_ | refine g_exitHere ?_ | refine g_exitOn rfl ?_ | refine g_ret ?_ | refine g_thenRet ?_ | refine g_blockRet ?_ | refine g_passS rfl ?_ | refine g_pass0 ?_ | refine g_passU rfl ?_ | refine g_passUS rfl ?_ | refine g_storeV ?_ | refine g_build1 rfl rfl fun _ _ => ?_ | refine g_buildN rfl rfl fun _ _ => ?_ | refine g_make rfl (by omega) (by omega) fun _ _ => ?_)
    generalize hnw : (!decide ((i : Int) = wo)) = nw
    cases nw
    · have hw : (i : Int) = wo := by simpa using hnw
      repeat (first | refine g_op rfl ?_ | refine g_then ?_ | refine g_nil ?_ | refine g_region ?_ | refine g_seq ?_ | refine g_opS rfl ?_ | refine g_open ?_ | refine g_pass rfl ?_ | refine g_store ?_ | refine g_box rfl fun _ _ => ?_ | refine g_alloc rfl fun _ _ => ?_ | refine g_allocS rfl fun _ _ => ?_ | refine g_storeAgg ?_ | refine g_inBlock ?_ | refine g_block ?_ | refine g_skip ?_ | refine g_condT ?_ | refine g_condF ?_ | refine g_add rfl (by omega) (by omega) ?_ | refine g_sub rfl (by omega) (by omega) ?_ | refine g_exit ?_ | refine g_thenExit ?_ | refine g_exitHere ?_ | refine g_exitOn rfl ?_ | refine g_ret ?_ | refine g_thenRet ?_ | refine g_blockRet ?_ | refine g_passS rfl ?_ | refine g_pass0 ?_ | refine g_passU rfl ?_ | refine g_passUS rfl ?_ | refine g_storeV ?_ | refine g_build1 rfl rfl fun _ _ => ?_ | refine g_buildN rfl rfl fun _ _ => ?_ | refine g_make rfl (by omega) (by omega) fun _ _ => ?_)
      exact g_next (i + 1, more', out') (stay fun _ h => absurd hw h) (by simp only; omega) (by repeat (first | exact trivial | refine ⟨rfl, ?_⟩)) (List.Sublist.cons _ (List.Sublist.refl _))
    have hw : (i : Int) ≠ wo := by simpa using hnw
    cases ov
    · have hce : CanEnd bl wo i := by
        rcases hon.1 rfl with h | ⟨t, he, ho⟩
        · exact canEnd_kind hw h
        · exact canEnd_step hw he (hsound' t ho)
      repeat (first | refine g_op rfl ?_ | refine g_then ?_ | refine g_nil ?_ | refine g_region ?_ | refine g_seq ?_ | refine g_opS rfl ?_ | refine g_open ?_ | refine g_pass rfl ?_ | refine g_store ?_ | refine g_box rfl fun _ _ => ?_ | refine g_alloc rfl fun _ _ => ?_ | refine g_allocS rfl fun _ _ => ?_ | refine g_storeAgg ?_ | refine g_inBlock ?_ | refine g_block ?_ | refine g_skip ?_ | refine g_condT ?_ | refine g_condF ?_ | refine g_add rfl (by omega) (by omega) ?_ | refine g_sub rfl (by omega) (by omega) ?_ | refine g_exit ?_ | refine g_thenExit ?_ | refine g_exitHere ?_ | refine g_exitOn rfl ?_ | refine g_ret ?_ | refine g_thenRet ?_ | refine g_blockRet ?_ | refine g_passS rfl ?_ | refine g_pass0 ?_ | refine g_passU rfl ?_ | refine g_passUS rfl ?_ | refine g_storeV ?_ | refine g_build1 rfl rfl fun _ _ => ?_ | refine g_buildN rfl rfl fun _ _ => ?_ | refine g_make rfl (by omega) (by omega) fun _ _ => ?_)
      have hus := unseen_set hov
      refine g_next (i + 1, true, out'.set i true) ⟨hlt, by simpa using hol', fun y hy => ?_, by simp, fun _ => ?_⟩ (by simp only; omega) (by repeat (first | exact trivial | refine ⟨rfl, ?_⟩)) (List.Sublist.cons _ (List.Sublist.refl _))
      · simp only [List.getElem?_set] at hy
        by_cases hyi : i = y
        · subst hyi; exact hce
        · rw [if_neg hyi] at hy
          exact hsound' y hy
      · cases hm : more'
        · have := (hno hm).1
          subst this
          simp only; omega
        · have := hyes hm
          simp only; omega
    · repeat (first | refine g_op rfl ?_ | refine g_then ?_ | refine g_nil ?_ | refine g_region ?_ | refine g_seq ?_ | refine g_opS rfl ?_ | refine g_open ?_ | refine g_pass rfl ?_ | refine g_store ?_ | refine g_box rfl fun _ _ => ?_ | refine g_alloc rfl fun _ _ => ?_ | refine g_allocS rfl fun _ _ => ?_ | refine g_storeAgg ?_ | refine g_inBlock ?_ | refine g_block ?_ | refine g_skip ?_ | refine g_condT ?_ | refine g_condF ?_ | refine g_add rfl (by omega) (by omega) ?_ | refine g_sub rfl (by omega) (by omega) ?_ | refine g_exit ?_ | refine g_thenExit ?_ | refine g_exitHere ?_ | refine g_exitOn rfl ?_ | refine g_ret ?_ | refine g_thenRet ?_ | refine g_blockRet ?_ | refine g_passS rfl ?_ | refine g_pass0 ?_ | refine g_passU rfl ?_ | refine g_passUS rfl ?_ | refine g_storeV ?_ | refine g_build1 rfl rfl fun _ _ => ?_ | refine g_buildN rfl rfl fun _ _ => ?_ | refine g_make rfl (by omega) (by omega) fun _ _ => ?_)
      exact g_next (i + 1, more', out') (stay fun _ _ => rfl) (by simp only; omega) (by repeat (first | exact trivial | refine ⟨rfl, ?_⟩)) (List.Sublist.cons _ (List.Sublist.refl _))
  · have hge : i = n := by have := h1; simp at this; omega
    repeat (first | refine g_op rfl ?_ | refine g_then ?_ | refine g_nil ?_ | refine g_region ?_ | refine g_seq ?_ | refine g_opS rfl ?_ | refine g_open ?_ | refine g_pass rfl ?_ | refine g_store ?_ | refine g_box rfl fun _ _ => ?_ | refine g_alloc rfl fun _ _ => ?_ | refine g_allocS rfl fun _ _ => ?_ | refine g_storeAgg ?_ | refine g_inBlock ?_ | refine g_block ?_ | refine g_skip ?_ | refine g_condT ?_ | refine g_condF ?_ | refine g_add rfl (by omega) (by omega) ?_ | refine g_sub rfl (by omega) (by omega) ?_ | refine g_exit ?_ | refine g_thenExit ?_ | refine g_exitHere ?_ | refine g_exitOn rfl ?_ | refine g_ret ?_ | refine g_thenRet ?_ | refine g_blockRet ?_ | refine g_passS rfl ?_ | refine g_pass0 ?_ | refine g_passU rfl ?_ | refine g_passUS rfl ?_ | refine g_storeV ?_ | refine g_build1 rfl rfl fun _ _ => ?_ | refine g_buildN rfl rfl fun _ _ => ?_ | refine g_make rfl (by omega) (by omega) fun _ _ => ?_)
    refine g_next (more', out') ⟨hol', hsound', fun hm y hy hw hc => ?_⟩ ?_ (by repeat (first | exact trivial | refine ⟨rfl, ?_⟩)) (List.Sublist.refl _)
    · obtain ⟨e, hall⟩ := hno hm
      simp only at e hc ⊢
      rw [e] at hc ⊢
      exact hall y (by omega) hw hc
    · cases hm : more'
      · have := (hno hm).1
        subst this
        simp
      · have := hyes hm
        simp only
        simp; omega
end Go.Proofs.YtebajiafdkokjaaDoor
