/- graph.From: which blocks a block reaches. -/
import Derived.Test.YtebajiafdkokjaaDoorName
import Derived.Test.YtebajiafdkokjaaDoorReach
namespace Go.Proofs.YtebajiafdkokjaaDoor
open Go Go.RowKit
attribute [local irreducible] wpListIn Code.wpIn Exit.then Exit.inBlock bodyPost wpQuiet wpAnyIn
set_option maxHeartbeats 2000000

def intN (x : Nat) : Value := .int .i64 (x : Int)
theorem graphFrom_c (nm pa re : Value) (bl : List LBlock) (bs : Value) (b : Nat) (w0 : World) (hbs : SlAt w0 bs 6 bl BlockV) (hlen : bl.length ≤ 100) (hok : GoodB bl) (hb : b < bl.length) :
    Ret Tryd.prog 45 [.agg #[nm, pa, re, bs], .int .i64 b] w0 fun u w' => ∃ p : Nat, u = .slice (some ⟨p, 0, none⟩) bl.length bl.length ∧ Wd NoS w0 [Ent.vec (some ⟨p, 0, none⟩) bl.length bl.length 4 1 ((seenOf bl b).map .bool)] w' ∧ True := by
  obtain ⟨ba, n, bc, bb, bo', rfl, hn, hnc, hnb, hbc, hba, hel⟩ := hbs
  rw [← hn] at hb hlen ⊢
  refine ret_enter Tryd.func45 rfl Tryd.ntmps45 rfl (Wd.nil NoS w0) ?_
  have hli0 : LtIs b n := ⟨hb⟩
  repeat (first | refine g_op rfl ?_ | refine g_then ?_ | refine g_nil ?_ | refine g_region ?_ | refine g_seq ?_ | refine g_opS rfl ?_ | refine g_open ?_ | refine g_pass rfl ?_ | refine g_store ?_ | refine g_box rfl fun _ _ => ?_ | refine g_alloc rfl fun _ _ => ?_ | refine g_allocS rfl fun _ _ => ?_ | refine g_storeAgg ?_ | refine g_inBlock ?_ | refine g_block ?_ | refine g_skip ?_ | refine g_condT ?_ | refine g_condF ?_ | refine g_add rfl (by omega) (by omega) ?_ | refine g_sub rfl (by omega) (by omega) ?_ | refine g_exit ?_ | refine g_thenExit ?_ | refine g_exitHere ?_ | refine g_exitOn rfl ?_ | refine g_ret ?_ | refine g_thenRet ?_ | refine g_blockRet ?_ | refine g_passS rfl ?_ | refine g_pass0 ?_ | refine g_passU rfl ?_ | refine g_passUS rfl ?_ | refine g_storeV ?_ | refine g_build1 rfl rfl fun _ _ => ?_ | refine g_buildN rfl rfl fun _ _ => ?_ | refine g_make rfl (by omega) (by omega) fun _ _ => ?_)
  rename_i p2 _ p5 _
  rw [show List.replicate n (Value.bool false) = (List.replicate n false).map Value.bool by simp]
  have hea : ElAt (List.replicate n false) b false := ⟨by simp [hb]⟩
  repeat (first | refine g_op rfl ?_ | refine g_then ?_ | refine g_nil ?_ | refine g_region ?_ | refine g_seq ?_ | refine g_opS rfl ?_ | refine g_open ?_ | refine g_pass rfl ?_ | refine g_store ?_ | refine g_box rfl fun _ _ => ?_ | refine g_alloc rfl fun _ _ => ?_ | refine g_allocS rfl fun _ _ => ?_ | refine g_storeAgg ?_ | refine g_inBlock ?_ | refine g_block ?_ | refine g_skip ?_ | refine g_condT ?_ | refine g_condF ?_ | refine g_add rfl (by omega) (by omega) ?_ | refine g_sub rfl (by omega) (by omega) ?_ | refine g_exit ?_ | refine g_thenExit ?_ | refine g_exitHere ?_ | refine g_exitOn rfl ?_ | refine g_ret ?_ | refine g_thenRet ?_ | refine g_blockRet ?_ | refine g_passS rfl ?_ | refine g_pass0 ?_ | refine g_passU rfl ?_ | refine g_passUS rfl ?_ | refine g_storeV ?_ | refine g_build1 rfl rfl fun _ _ => ?_ | refine g_buildN rfl rfl fun _ _ => ?_ | refine g_make rfl (by omega) (by omega) fun _ _ => ?_)
  rename_i p6 _
  refine g_loop (fun (x : List Bool × List Nat × Option Addr × Nat) => x.1.length = n ∧ (∀ y, x.1[y]? = some true → Rch bl (-1) b y) ∧ x.1[b]? = some true ∧ (∀ y ∈ x.2.1, x.1[y]? = some true) ∧ (∀ y, x.1[y]? = some true → y ∈ x.2.1 ∨ ∀ z, Edge bl y z → x.1[z]? = some true) ∧ unseen x.1 + x.2.1.length ≤ n + 1)
    (fun x => [(6, .slice x.2.2.1 x.2.1.length x.2.2.2), (5, .slice (some ⟨p5, 0, none⟩) n n), (2, .pointer (some ⟨p2, 0, none⟩))])
    (fun x => [Ent.vec x.2.2.1 x.2.1.length x.2.2.2 3 1 (x.2.1.map intN), Ent.vec (some ⟨p5, 0, none⟩) n n 4 1 (x.1.map .bool), Ent.box p2 [nm, pa, re, .slice ba n bc] 35])
    (fun x => unseen x.1 + x.2.1.length) ((List.replicate n false).set b true, [b], some ⟨p6, 0, none⟩, 1) ⟨by simp, ?_, by simp [hb], by simp [hb], ?_, ?_⟩ (g_done (by repeat (first | exact trivial | refine ⟨rfl, ?_⟩)) (List.Sublist.refl _)) fun x ⟨hsl, hsr, hsb, hrs, hcl, hun⟩ => ?_
  · intro y hy
    simp only [List.getElem?_set, List.length_replicate, List.getElem?_replicate] at hy
    by_cases hyb : b = y
    · subst hyb; exact Rch.refl
    · rw [if_neg hyb] at hy
      split at hy <;> cases hy
  · intro y hy
    simp only [List.getElem?_set, List.length_replicate, List.getElem?_replicate] at hy
    by_cases hyb : b = y
    · subst hyb; simp
    · rw [if_neg hyb] at hy
      split at hy <;> cases hy
  · have := unseen_set (l := List.replicate n false) (i := b) (by simp [hb])
    have h2 : unseen (List.replicate n false) = n := by simp [unseen]
    simp only [List.length_singleton]; omega
  obtain ⟨seen, row, ra, rc⟩ := x
  simp only at hsl hsr hsb hrs hcl hun ⊢
  repeat (first | refine g_op rfl ?_ | refine g_then ?_ | refine g_nil ?_ | refine g_region ?_ | refine g_seq ?_ | refine g_opS rfl ?_ | refine g_open ?_ | refine g_pass rfl ?_ | refine g_store ?_ | refine g_box rfl fun _ _ => ?_ | refine g_alloc rfl fun _ _ => ?_ | refine g_allocS rfl fun _ _ => ?_ | refine g_storeAgg ?_ | refine g_inBlock ?_ | refine g_block ?_ | refine g_skip ?_ | refine g_condT ?_ | refine g_condF ?_ | refine g_add rfl (by omega) (by omega) ?_ | refine g_sub rfl (by omega) (by omega) ?_ | refine g_exit ?_ | refine g_thenExit ?_ | refine g_exitHere ?_ | refine g_exitOn rfl ?_ | refine g_ret ?_ | refine g_thenRet ?_ | refine g_blockRet ?_ | refine g_passS rfl ?_ | refine g_pass0 ?_ | refine g_passU rfl ?_ | refine g_passUS rfl ?_ | refine g_storeV ?_ | refine g_build1 rfl rfl fun _ _ => ?_ | refine g_buildN rfl rfl fun _ _ => ?_ | refine g_make rfl (by omega) (by omega) fun _ _ => ?_)
  refine g_cond (fun h1 => ?_) (fun h1 => ?_)
  · obtain ⟨x0, rest, rfl⟩ : ∃ x0 rest, row = x0 :: rest := by
      cases row with
      | nil => simp at h1
      | cons x0 rest => exact ⟨x0, rest, rfl⟩
    refine g_vec 0 rfl (by simp) fun rb ro hra => ?_
    subst hra
    have hx0s := hrs x0 (by simp)
    have hx0 : x0 < n := by rw [← hsl]; exact (List.getElem?_eq_some_iff.1 hx0s).1
    obtain ⟨B, hB⟩ := get_lt hn hx0
    have had : AddrIs ba bb bo' := ⟨hba (ne_of_get hB)⟩
    have hli : LtIs x0 n := ⟨hx0⟩
    have hli1 : LtIs 0 (x0 :: rest).length := ⟨by simp⟩
    obtain ⟨cs, hcs, pv, lv, tv, rfl, _, _, _, _, ht⟩ := hel x0 B hB
    obtain ⟨ta, tn, tc, tb, to', rfl, htn, htnc, htnb, htc, hta, htel⟩ := ht
    have hci : CellsIs w0 bb (bo' + x0 * 6) _ := ⟨hcs⟩
    have hBok := hok B (List.mem_of_getElem? hB)
    have hxat : XAt ((x0 :: rest).map intN) (0 * 1) (.int .i64 (x0 : Int)) := ⟨rfl⟩
    repeat (first | refine g_op rfl ?_ | refine g_then ?_ | refine g_nil ?_ | refine g_region ?_ | refine g_seq ?_ | refine g_opS rfl ?_ | refine g_open ?_ | refine g_pass rfl ?_ | refine g_store ?_ | refine g_box rfl fun _ _ => ?_ | refine g_alloc rfl fun _ _ => ?_ | refine g_allocS rfl fun _ _ => ?_ | refine g_storeAgg ?_ | refine g_inBlock ?_ | refine g_block ?_ | refine g_skip ?_ | refine g_condT ?_ | refine g_condF ?_ | refine g_add rfl (by omega) (by omega) ?_ | refine g_sub rfl (by omega) (by omega) ?_ | refine g_exit ?_ | refine g_thenExit ?_ | refine g_exitHere ?_ | refine g_exitOn rfl ?_ | refine g_ret ?_ | refine g_thenRet ?_ | refine g_blockRet ?_ | refine g_passS rfl ?_ | refine g_pass0 ?_ | refine g_passU rfl ?_ | refine g_passUS rfl ?_ | refine g_storeV ?_ | refine g_build1 rfl rfl fun _ _ => ?_ | refine g_buildN rfl rfl fun _ _ => ?_ | refine g_make rfl (by omega) (by omega) fun _ _ => ?_)
    refine g_draw mixed (by kernel_rfl) ?_
    repeat (first | refine q_op rfl ?_ | refine q_opS rfl ?_ | refine q_open ?_ | refine q_pass rfl ?_ | refine q_passU rfl ?_ | refine q_add rfl (by omega) (by omega) ?_ | refine q_sub rfl (by omega) (by omega) ?_ | refine q_nil ?_)
    repeat (first | refine g_op rfl ?_ | refine g_then ?_ | refine g_nil ?_ | refine g_region ?_ | refine g_seq ?_ | refine g_opS rfl ?_ | refine g_open ?_ | refine g_pass rfl ?_ | refine g_store ?_ | refine g_box rfl fun _ _ => ?_ | refine g_alloc rfl fun _ _ => ?_ | refine g_allocS rfl fun _ _ => ?_ | refine g_storeAgg ?_ | refine g_inBlock ?_ | refine g_block ?_ | refine g_skip ?_ | refine g_condT ?_ | refine g_condF ?_ | refine g_add rfl (by omega) (by omega) ?_ | refine g_sub rfl (by omega) (by omega) ?_ | refine g_exit ?_ | refine g_thenExit ?_ | refine g_exitHere ?_ | refine g_exitOn rfl ?_ | refine g_ret ?_ | refine g_thenRet ?_ | refine g_blockRet ?_ | refine g_passS rfl ?_ | refine g_pass0 ?_ | refine g_passU rfl ?_ | refine g_passUS rfl ?_ | refine g_storeV ?_ | refine g_build1 rfl rfl fun _ _ => ?_ | refine g_buildN rfl rfl fun _ _ => ?_ | refine g_make rfl (by omega) (by omega) fun _ _ => ?_)
    refine g_loop (fun (x : Nat × List Bool × List Nat × Option Addr × Nat) => x.1 ≤ tn ∧ x.2.1.length = n ∧ (∀ y, x.2.1[y]? = some true → Rch bl (-1) b y) ∧ x.2.1[b]? = some true ∧ (∀ y ∈ x.2.2.1, x.2.1[y]? = some true) ∧ (∀ y, x.2.1[y]? = some true → y ∈ x.2.2.1 ∨ ∀ z, Edge bl y z → x.2.1[z]? = some true) ∧ unseen x.2.1 + x.2.2.1.length = unseen seen + (x0 :: rest).length ∧ (∃ r', x.2.2.1 = x0 :: r') ∧ ∀ k t, k < x.1 → B.to[k]? = some t → x.2.1[t.toNat]? = some true)
      (fun x => [(33, .int .i64 x.1), (31, .slice ta tn tc), (32, .int .i64 tn), (6, .slice x.2.2.2.1 x.2.2.1.length x.2.2.2.2), (5, .slice (some ⟨p5, 0, none⟩) n n), (2, .pointer (some ⟨p2, 0, none⟩))])
      (fun x => [Ent.vec x.2.2.2.1 x.2.2.1.length x.2.2.2.2 3 1 (x.2.2.1.map intN), Ent.vec (some ⟨p5, 0, none⟩) n n 4 1 (x.2.1.map .bool), Ent.box p2 [nm, pa, re, .slice ba n bc] 35])
      (fun x => tn - x.1) (0, seen, x0 :: rest, some ⟨rb, ro, none⟩, rc) ⟨Nat.zero_le _, hsl, hsr, hsb, hrs, hcl, rfl, ⟨rest, rfl⟩, by simp⟩ (g_done (by repeat (first | exact trivial | refine ⟨rfl, ?_⟩)) (List.Sublist.refl _)) fun x ⟨hj, hsl', hsr', hsb', hrs', hcl', hun', ⟨r', hr'⟩, hdone⟩ => ?_
    obtain ⟨j, seen', row', ra', rc'⟩ := x
    simp only at hj hsl' hsr' hsb' hrs' hcl' hun' hr' hdone ⊢
    repeat (first | refine g_op rfl ?_ | refine g_then ?_ | refine g_nil ?_ | refine g_region ?_ | refine g_seq ?_ | refine g_opS rfl ?_ | refine g_open ?_ | refine g_pass rfl ?_ | refine g_store ?_ | refine g_box rfl fun _ _ => ?_ | refine g_alloc rfl fun _ _ => ?_ | refine g_allocS rfl fun _ _ => ?_ | refine g_storeAgg ?_ | refine g_inBlock ?_ | refine g_block ?_ | refine g_skip ?_ | refine g_condT ?_ | refine g_condF ?_ | refine g_add rfl (by omega) (by omega) ?_ | refine g_sub rfl (by omega) (by omega) ?_ | refine g_exit ?_ | refine g_thenExit ?_ | refine g_exitHere ?_ | refine g_exitOn rfl ?_ | refine g_ret ?_ | refine g_thenRet ?_ | refine g_blockRet ?_ | refine g_passS rfl ?_ | refine g_pass0 ?_ | refine g_passU rfl ?_ | refine g_passUS rfl ?_ | refine g_storeV ?_ | refine g_build1 rfl rfl fun _ _ => ?_ | refine g_buildN rfl rfl fun _ _ => ?_ | refine g_make rfl (by omega) (by omega) fun _ _ => ?_)
    refine g_cond (fun h2 => ?_) (fun h2 => ?_)
    · have hjlt : j < tn := by simpa using h2
      obtain ⟨t, htj⟩ := get_lt htn hjlt
      have htt := hBok.2 t (List.mem_of_getElem? htj)
      obtain ⟨k, hk⟩ : ∃ k : Nat, t = k := ⟨t.toNat, by omega⟩
      have hkn : k < n := by omega
      have had2 : AddrIs ta tb to' := ⟨hta (ne_of_get htj)⟩
      have hli2 : LtIs j tn := ⟨hjlt⟩
      have hli3 : LtIs k n := ⟨hkn⟩
      have hni : NatIs t k := ⟨hk⟩
      obtain ⟨cs2, hcs2, rfl, _⟩ := htel j t htj
      have hci2 : CellsIs w0 tb (to' + j * 1) _ := ⟨hcs2⟩
      obtain ⟨sv, hsv⟩ : ∃ sv, seen'[k]? = some sv := ⟨_, List.getElem?_eq_getElem (by omega)⟩
      have hea : ElAt seen' k sv := ⟨hsv⟩
      have hedge : Edge bl x0 k := by
        unfold Edge
        rw [toOf_get hB, ← hk]
        exact List.mem_of_getElem? htj
      have hrk : Rch bl (-1) b k := (hsr' x0 (hrs' x0 (by rw [hr']; simp))).step hedge (by omega)
      cases sv
      · repeat (first | refine g_op rfl ?_ | refine g_then ?_ | refine g_nil ?_ | refine g_region ?_ | refine g_seq ?_ | refine g_opS rfl ?_ | refine g_open ?_ | refine g_pass rfl ?_ | refine g_store ?_ | refine g_box rfl fun _ _ => ?_ | refine g_alloc rfl fun _ _ => ?_ | refine g_allocS rfl fun _ _ => ?_ | refine g_storeAgg ?_ | refine g_inBlock ?_ | refine g_block ?_ | refine g_skip ?_ | refine g_condT ?_ | refine g_condF ?_ | refine g_add rfl (by omega) (by omega) ?_ | refine g_sub rfl (by omega) (by omega) ?_ | refine g_exit ?_ | refine g_thenExit ?_ | refine g_exitHere ?_ | refine g_exitOn rfl ?_ | refine g_ret ?_ | refine g_thenRet ?_ | refine g_blockRet ?_ | refine g_passS rfl ?_ | refine g_pass0 ?_ | refine g_passU rfl ?_ | refine g_passUS rfl ?_ | refine g_storeV ?_ | refine g_build1 rfl rfl fun _ _ => ?_ | refine g_buildN rfl rfl fun _ _ => ?_ | refine g_make rfl (by omega) (by omega) fun _ _ => ?_)
        refine g_append rfl rfl (by omega) (by omega) fun a' c' => ?_
        rw [show row'.map intN ++ [.int .i64 t] = (row' ++ [k]).map intN by simp [intN, hk]]
        rw [show row'.length + 1 = (row' ++ [k]).length by simp]
        repeat (first | refine g_op rfl ?_ | refine g_then ?_ | refine g_nil ?_ | refine g_region ?_ | refine g_seq ?_ | refine g_opS rfl ?_ | refine g_open ?_ | refine g_pass rfl ?_ | refine g_store ?_ | refine g_box rfl fun _ _ => ?_ | refine g_alloc rfl fun _ _ => ?_ | refine g_allocS rfl fun _ _ => ?_ | refine g_storeAgg ?_ | refine g_inBlock ?_ | refine g_block ?_ | refine g_skip ?_ | refine g_condT ?_ | refine g_condF ?_ | refine g_add rfl (by omega) (by omega) ?_ | refine g_sub rfl (by omega) (by omega) ?_ | refine g_exit ?_ | refine g_thenExit ?_ | refine g_exitHere ?_ | refine g_exitOn rfl ?_ | refine g_ret ?_ | refine g_thenRet ?_ | refine g_blockRet ?_ | refine g_passS rfl ?_ | refine g_pass0 ?_ | refine g_passU rfl ?_ | refine g_passUS rfl ?_ | refine g_storeV ?_ | refine g_build1 rfl rfl fun _ _ => ?_ | refine g_buildN rfl rfl fun _ _ => ?_ | refine g_make rfl (by omega) (by omega) fun _ _ => ?_)
        have hus := unseen_set hsv
        have hset : ∀ y, (seen'.set k true)[y]? = some true ↔ (y = k ∨ seen'[y]? = some true) := by
          intro y
          rw [List.getElem?_set]
          by_cases hyk : k = y
          · subst hyk; simp [show k < seen'.length by omega]
          · rw [if_neg hyk]; simp [Ne.symm hyk]
        refine g_next (j + 1, seen'.set k true, row' ++ [k], a', c') ⟨hjlt, by simpa using hsl', ?_, ?_, ?_, ?_, ?_, ⟨r' ++ [k], by rw [hr']; rfl⟩, ?_⟩ (by simp only; omega) (by repeat (first | exact trivial | refine ⟨rfl, ?_⟩)) (List.Sublist.cons _ (List.Sublist.refl _))
        · intro y hy
          rcases (hset y).1 hy with rfl | hy
          · exact hrk
          · exact hsr' y hy
        · exact (hset b).2 (.inr hsb')
        · intro y hy
          rcases List.mem_append.1 hy with hy | hy
          · exact (hset y).2 (.inr (hrs' y hy))
          · exact (hset y).2 (.inl (by simpa using hy))
        · intro y hy
          rcases (hset y).1 hy with rfl | hy
          · left; simp
          · rcases hcl' y hy with h | h
            · left; simp [h]
            · right; intro z hz; exact (hset z).2 (.inr (h z hz))
        · simp only [List.length_append, List.length_singleton]; omega
        · intro q t' hq ht'
          by_cases hqj : q = j
          · subst hqj
            rw [htj] at ht'
            simp only [Option.some.injEq] at ht'
            subst ht'
            exact (hset _).2 (.inl (by omega))
          · exact (hset _).2 (.inr (hdone q t' (by simp only at hq; omega) ht'))
      · repeat (first | refine g_op rfl ?_ | refine g_then ?_ | refine g_nil ?_ | refine g_region ?_ | refine g_seq ?_ | refine g_opS rfl ?_ | refine g_open ?_ | refine g_pass rfl ?_ | refine g_store ?_ | refine g_box rfl fun _ _ => ?_ | refine g_alloc rfl fun _ _ => ?_ | refine g_allocS rfl fun _ _ => ?_ | refine g_storeAgg ?_ | refine g_inBlock ?_ | refine g_block ?_ | refine g_skip ?_ | refine g_condT ?_ | refine g_condF ?_ | refine g_add rfl (by omega) (by omega) ?_ | refine g_sub rfl (by omega) (by omega) ?_ | refine g_exit ?_ | refine g_thenExit ?_ | refine g_exitHere ?_ | refine g_exitOn rfl ?_ | refine g_ret ?_ | refine g_thenRet ?_ | refine g_blockRet ?_ | refine g_passS rfl ?_ | refine g_pass0 ?_ | refine g_passU rfl ?_ | refine g_passUS rfl ?_ | refine g_storeV ?_ | refine g_build1 rfl rfl fun _ _ => ?_ | refine g_buildN rfl rfl fun _ _ => ?_ | refine g_make rfl (by omega) (by omega) fun _ _ => ?_)
        refine g_next (j + 1, seen', row', ra', rc') ⟨hjlt, hsl', hsr', hsb', hrs', hcl', hun', ⟨r', hr'⟩, ?_⟩ (by simp only; omega) (by repeat (first | exact trivial | refine ⟨rfl, ?_⟩)) (List.Sublist.refl _)
        intro q t' hq ht'
        by_cases hqj : q = j
        · subst hqj
          rw [htj] at ht'
          simp only [Option.some.injEq] at ht'
          subst ht'
          rw [hk]; simpa using hsv
        · exact hdone q t' (by simp only at hq; omega) ht'
    · have hge : j = tn := by have := h2; simp at this; omega
      subst hr'
      repeat (first | refine g_op rfl ?_ | refine g_then ?_ | refine g_nil ?_ | refine g_region ?_ | refine g_seq ?_ | refine g_opS rfl ?_ | refine g_open ?_ | refine g_pass rfl ?_ | refine g_store ?_ | refine g_box rfl fun _ _ => ?_ | refine g_alloc rfl fun _ _ => ?_ | refine g_allocS rfl fun _ _ => ?_ | refine g_storeAgg ?_ | refine g_inBlock ?_ | refine g_block ?_ | refine g_skip ?_ | refine g_condT ?_ | refine g_condF ?_ | refine g_add rfl (by omega) (by omega) ?_ | refine g_sub rfl (by omega) (by omega) ?_ | refine g_exit ?_ | refine g_thenExit ?_ | refine g_exitHere ?_ | refine g_exitOn rfl ?_ | refine g_ret ?_ | refine g_thenRet ?_ | refine g_blockRet ?_ | refine g_passS rfl ?_ | refine g_pass0 ?_ | refine g_passU rfl ?_ | refine g_passUS rfl ?_ | refine g_storeV ?_ | refine g_build1 rfl rfl fun _ _ => ?_ | refine g_buildN rfl rfl fun _ _ => ?_ | refine g_make rfl (by omega) (by omega) fun _ _ => ?_)
      refine g_tail rfl (by simp) fun a' => ?_
      repeat (first | refine g_op rfl ?_ | refine g_then ?_ | refine g_nil ?_ | refine g_region ?_ | refine g_seq ?_ | refine g_opS rfl ?_ | refine g_open ?_ | refine g_pass rfl ?_ | refine g_store ?_ | refine g_box rfl fun _ _ => ?_ | refine g_alloc rfl fun _ _ => ?_ | refine g_allocS rfl fun _ _ => ?_ | refine g_storeAgg ?_ | refine g_inBlock ?_ | refine g_block ?_ | refine g_skip ?_ | refine g_condT ?_ | refine g_condF ?_ | refine g_add rfl (by omega) (by omega) ?_ | refine g_sub rfl (by omega) (by omega) ?_ | refine g_exit ?_ | refine g_thenExit ?_ | refine g_exitHere ?_ | refine g_exitOn rfl ?_ | refine g_ret ?_ | refine g_thenRet ?_ | refine g_blockRet ?_ | refine g_passS rfl ?_ | refine g_pass0 ?_ | refine g_passU rfl ?_ | refine g_passUS rfl ?_ | refine g_storeV ?_ | refine g_build1 rfl rfl fun _ _ => ?_ | refine g_buildN rfl rfl fun _ _ => ?_ | refine g_make rfl (by omega) (by omega) fun _ _ => ?_)
      refine g_next (seen', r', a', rc' - 1) ⟨hsl', hsr', hsb', fun y hy => hrs' y (by simp [hy]), fun y hy => ?_, ?_⟩ ?_ (by repeat (first | exact trivial | refine ⟨rfl, ?_⟩)) (List.Sublist.refl _)
      · rcases hcl' y hy with h | h
        · rcases List.mem_cons.1 h with rfl | h
          · right
            intro z hz
            unfold Edge at hz
            rw [toOf_get hB] at hz
            obtain ⟨q, hq⟩ := List.getElem?_of_mem hz
            have := hdone q _ (by have := (List.getElem?_eq_some_iff.1 hq).1; omega) hq
            simpa using this
          · exact .inl h
        · exact .inr h
      · simp only [List.length_cons] at hun' hun ⊢; omega
      · simp only [List.length_cons] at hun' ⊢; omega
  · have hrow : row = [] := by
      cases row with
      | nil => rfl
      | cons x r => simp at h1
    subst hrow
    have hfin : seen = seenOf bl b := by
      classical
      apply List.ext_getElem?
      intro y
      by_cases hy : y < n
      · rw [seenOf_get (by omega)]
        obtain ⟨sv, hsv⟩ : ∃ sv, seen[y]? = some sv := ⟨_, List.getElem?_eq_getElem (by omega)⟩
        rw [hsv]
        congr 1
        cases sv
        · symm
          rw [decide_eq_false_iff_not]
          intro hr
          have := rch_closed (p := fun y => seen[y]? = some true) hsb (fun x y hx he _ => (hcl x hx).elim (fun h => by cases h) fun h => h y he) hr
          rw [hsv] at this
          cases this
        · symm
          rw [decide_eq_true_eq]
          exact hsr y hsv
      · rw [List.getElem?_eq_none (by omega), List.getElem?_eq_none (by rw [seenOf_length]; omega)]
    repeat (first | refine g_op rfl ?_ | refine g_then ?_ | refine g_nil ?_ | refine g_region ?_ | refine g_seq ?_ | refine g_opS rfl ?_ | refine g_open ?_ | refine g_pass rfl ?_ | refine g_store ?_ | refine g_box rfl fun _ _ => ?_ | refine g_alloc rfl fun _ _ => ?_ | refine g_allocS rfl fun _ _ => ?_ | refine g_storeAgg ?_ | refine g_inBlock ?_ | refine g_block ?_ | refine g_skip ?_ | refine g_condT ?_ | refine g_condF ?_ | refine g_add rfl (by omega) (by omega) ?_ | refine g_sub rfl (by omega) (by omega) ?_ | refine g_exit ?_ | refine g_thenExit ?_ | refine g_exitHere ?_ | refine g_exitOn rfl ?_ | refine g_ret ?_ | refine g_thenRet ?_ | refine g_blockRet ?_ | refine g_passS rfl ?_ | refine g_pass0 ?_ | refine g_passU rfl ?_ | refine g_passUS rfl ?_ | refine g_storeV ?_ | refine g_build1 rfl rfl fun _ _ => ?_ | refine g_buildN rfl rfl fun _ _ => ?_ | refine g_make rfl (by omega) (by omega) fun _ _ => ?_)
    refine g_ret1 rfl fun w hw => ⟨p5, rfl, ?_, trivial⟩
    rw [← hfin]
    exact hw.sub (List.Sublist.cons _ (List.Sublist.cons_cons _ (List.Sublist.cons _ (List.Sublist.refl _))))
end Go.Proofs.YtebajiafdkokjaaDoor
