/- code.ahead: for each block the list of the blocks that lead to it. -/
import Derived.Test.YtebajiafdkokjaaDoorCheckD
namespace Go.Proofs.YtebajiafdkokjaaDoor
open Go Go.RowKit
attribute [local irreducible] wpListIn Code.wpIn Exit.then Exit.inBlock bodyPost wpQuiet wpAnyIn
set_option maxHeartbeats 2000000

/-- pieces taken together, of which one thing is told -/
theorem Wd.pack {S : Nat → Prop} {w0 w : World} {E H : List Ent} (h : Wd S w0 (E ++ H) w) (F : World → Prop) (hF : ∀ w2, Wd (fps E) w2 E w2 → F w2) : Wd S w0 (⟨fps E, F⟩ :: H) w := by
  have hap := List.pairwise_append.1 h.apart
  refine ⟨h.chg, ?_, ?_, ?_⟩
  · intro e he b hb
    rcases List.mem_cons.1 he with rfl | he
    · obtain ⟨x, hx, hxb⟩ := hb
      exact h.own x (List.mem_append_left _ hx) b hxb
    · exact h.own e (List.mem_append_right _ he) b hb
  · intro e he w2 hs2 hw2
    rcases List.mem_cons.1 he with rfl | he
    · refine hF w2 ⟨Chg.refl _ _, fun x hx b hb => ⟨.inl ⟨x, hx, hb⟩, ?_⟩, fun x hx w3 hs3 hw3 => ?_, hap.1⟩
      · by_cases hlt : b < w2.heap.size
        · exact hlt
        · have h1 := hw2 b ⟨x, hx, hb⟩
          rw [Array.getElem?_eq_none (by omega)] at h1
          have h2 := (h.own x (List.mem_append_left _ hx) b hb).2
          rw [Array.getElem?_eq_getElem h2] at h1
          cases h1
      · exact h.ok x (List.mem_append_left _ hx) w3 (Nat.le_trans hs2 hs3) fun b hb => (hw3 b hb).trans (hw2 b ⟨x, hx, hb⟩)
    · exact h.ok e (List.mem_append_right _ he) w2 hs2 hw2
  · refine List.pairwise_cons.2 ⟨fun f hf b ⟨x, hx, hxb⟩ hfb => hap.2.2 x hx f hf b hxb hfb, hap.2.1⟩

structure Row where
  a : Option Addr
  c : Nat
  l : List Int
def valR (r : Row) : Value := .slice r.a r.l.length r.c
def entR (r : Row) : Ent := Ent.vec r.a r.l.length r.c 3 1 (r.l.map (.int .i64))
theorem map_set_modify {α β : Type} {f : α → β} {g : β → β} {l : List α} {k : Nat} {r r' : α} (h : l[k]? = some r) (hr : f r' = g (f r)) : (l.set k r').map f = (l.map f).modify k g := by
  apply List.ext_getElem?
  intro i
  rw [List.getElem?_map, List.getElem?_set, List.getElem?_modify, List.getElem?_map]
  by_cases hi : k = i
  · subst hi
    have hlt : k < l.length := (List.getElem?_eq_some_iff.1 h).1
    have h2 := (List.getElem?_eq_some_iff.1 h).2
    simp [hlt, hr, h2]
  · simp [hi]
theorem rows_sl {S : Nat → Prop} {w0 w : World} {rs : List Row} {bo n e : Nat} {H : List Ent} (h : Wd S w0 (Ent.vec (some ⟨bo, 0, none⟩) n n e 1 (rs.map valR) :: (rs.map entR ++ H)) w) (hn : n = rs.length) (hb : n ≤ 100) (hl : ∀ r ∈ rs, r.l.length ≤ 1000 ∧ ∀ x ∈ r.l, inI x) :
    SlAt w (.slice (some ⟨bo, 0, none⟩) n n) 1 (rs.map (·.l)) RowV := by
  refine h.slAt (k := 0) rfl (by simpa using hn) (by omega) fun i x hx => ?_
  rw [List.getElem?_map] at hx
  obtain ⟨r, hr, rfl⟩ := Option.map_eq_some_iff.1 hx
  have hlt : i < rs.length := (List.getElem?_eq_some_iff.1 hr).1
  have hb' := hl r (List.mem_of_getElem? hr)
  refine ⟨[valR r], fun j v hj => ?_, valR r, rfl, ?_⟩
  · match j, hj with
    | 0, hj => simpa [hr] using hj
  · refine h.slAt (k := i + 1) (a := r.a) (n := r.l.length) (c := r.c) (e := 3) (s := 1) (xs := r.l.map (.int .i64)) ?_ rfl (by omega) fun j y hy => ⟨[.int .i64 y], fun k v hk => ?_, rfl, hb'.2 y (List.mem_of_getElem? hy)⟩
    · rw [List.getElem?_cons_succ, List.getElem?_append_left (by simpa using hlt), List.getElem?_map, hr]; rfl
    · match k, hk with
      | 0, hk => simpa [hy] using hk
def toOk (n : Nat) (l : List Int) : Prop := l.length ≤ 2 ∧ ∀ t ∈ l, 0 ≤ t ∧ t < n
theorem ahead_c (nm pa re : Value) (bl : List LBlock) (bs : Value) (w0 : World) (hbs : SlAt w0 bs 6 bl BlockV) (hlen : bl.length ≤ 100) (hok : ∀ b ∈ bl, toOk bl.length b.to) :
    Ret Tryd.prog 97 [.agg #[nm, pa, re, bs]] w0 fun u w' => ∃ x : (Option Addr × Nat × Nat) × (Nat → Prop), u = .slice x.1.1 x.1.2.1 x.1.2.2 ∧ Wd NoS w0 [⟨x.2, fun w => SlAt w (.slice x.1.1 x.1.2.1 x.1.2.2) 1 (aheadL bl) RowV⟩] w' ∧ True := by
  obtain ⟨ba, n, bc, bb, bo', rfl, hn, hnc, hnb, hbc, hba, hel⟩ := hbs
  refine ret_enter Tryd.func97 rfl Tryd.ntmps97 rfl (Wd.nil NoS w0) ?_
  repeat (first | refine g_op rfl ?_ | refine g_then ?_ | refine g_nil ?_ | refine g_region ?_ | refine g_seq ?_ | refine g_opS rfl ?_ | refine g_open ?_ | refine g_pass rfl ?_ | refine g_store ?_ | refine g_box rfl fun _ _ => ?_ | refine g_alloc rfl fun _ _ => ?_ | refine g_allocS rfl fun _ _ => ?_ | refine g_storeAgg ?_ | refine g_inBlock ?_ | refine g_block ?_ | refine g_skip ?_ | refine g_condT ?_ | refine g_condF ?_ | refine g_add rfl (by omega) (by omega) ?_ | refine g_sub rfl (by omega) (by omega) ?_ | refine g_exit ?_ | refine g_thenExit ?_ | refine g_exitHere ?_ | refine g_exitOn rfl ?_ | refine g_ret ?_ | refine g_thenRet ?_ | refine g_blockRet ?_ | refine g_passS rfl ?_ | refine g_pass0 ?_ | refine g_passU rfl ?_ | refine g_passUS rfl ?_ | refine g_storeV ?_ | refine g_build1 rfl rfl fun _ _ => ?_ | refine g_buildN rfl rfl fun _ _ => ?_ | refine g_make rfl (by omega) (by omega) fun _ _ => ?_)
  rename_i b1 _ bo _
  refine g_nilVecs 3 1 n ?_
  rw [show (List.replicate n (Value.slice none 0 0)) = (List.replicate n (⟨none, 0, []⟩ : Row)).map valR by simp [valR], show (List.replicate n (Ent.vec none 0 0 3 1 [])) = (List.replicate n (⟨none, 0, []⟩ : Row)).map entR by simp [entR]]
  refine g_loop (fun (x : Nat × List Row) => x.1 ≤ n ∧ x.2.map (·.l) = aheadTo bl x.1 ∧ x.2.length = n ∧ ∀ r ∈ x.2, r.l.length ≤ 2 * x.1 ∧ ∀ y ∈ r.l, inI y) (fun x => [(15, .int .i64 x.1), (13, .slice ba n bc), (14, .int .i64 n), (3, .slice (some ⟨bo, 0, none⟩) n n)]) (fun x => Ent.vec (some ⟨bo, 0, none⟩) n n 27 1 (x.2.map valR) :: x.2.map entR) (fun x => n - x.1) (0, List.replicate n ⟨none, 0, []⟩)
    ⟨Nat.zero_le _, by simp [aheadTo, hn], by simp, by simp⟩ (g_done (by repeat (first | exact trivial | refine ⟨rfl, ?_⟩)) (List.Sublist.cons_cons _ (List.Sublist.cons _ (List.Sublist.refl _)))) fun x ⟨hi, hrows, hrl, hbd⟩ => ?_
  obtain ⟨i, rs⟩ := x
  simp only at hi hrows hrl hbd ⊢
  repeat (first | refine g_op rfl ?_ | refine g_then ?_ | refine g_nil ?_ | refine g_region ?_ | refine g_seq ?_ | refine g_opS rfl ?_ | refine g_open ?_ | refine g_pass rfl ?_ | refine g_store ?_ | refine g_box rfl fun _ _ => ?_ | refine g_alloc rfl fun _ _ => ?_ | refine g_allocS rfl fun _ _ => ?_ | refine g_storeAgg ?_ | refine g_inBlock ?_ | refine g_block ?_ | refine g_skip ?_ | refine g_condT ?_ | refine g_condF ?_ | refine g_add rfl (by omega) (by omega) ?_ | refine g_sub rfl (by omega) (by omega) ?_ | refine g_exit ?_ | refine g_thenExit ?_ | refine g_exitHere ?_ | refine g_exitOn rfl ?_ | refine g_ret ?_ | refine g_thenRet ?_ | refine g_blockRet ?_ | refine g_passS rfl ?_ | refine g_pass0 ?_ | refine g_passU rfl ?_ | refine g_passUS rfl ?_ | refine g_storeV ?_ | refine g_build1 rfl rfl fun _ _ => ?_ | refine g_buildN rfl rfl fun _ _ => ?_ | refine g_make rfl (by omega) (by omega) fun _ _ => ?_)
  refine g_cond (fun h1 => ?_) (fun h1 => ?_)
  · have hlt : i < n := by simpa using h1
    obtain ⟨B, hB⟩ := get_lt hn hlt
    have had : AddrIs ba bb bo' := ⟨hba (ne_of_get hB)⟩
    have hli : LtIs i n := ⟨hlt⟩
    obtain ⟨cs, hcs, pv, lv, tv, rfl, _, _, hphis, hlist, ht⟩ := hel i B hB
    obtain ⟨pa', pn, pc, _, _, rfl, _⟩ := hphis
    obtain ⟨la, ln, lc, _, _, rfl, _⟩ := hlist
    obtain ⟨ta, tn, tc, tb, to', rfl, htn, htnc, htnb, htc, hta, htel⟩ := ht
    have hci : CellsIs w0 bb (bo' + i * 6) _ := ⟨hcs⟩
    have htok := hok B (List.mem_of_getElem? hB)
    repeat (first | refine g_op rfl ?_ | refine g_then ?_ | refine g_nil ?_ | refine g_region ?_ | refine g_seq ?_ | refine g_opS rfl ?_ | refine g_open ?_ | refine g_pass rfl ?_ | refine g_store ?_ | refine g_box rfl fun _ _ => ?_ | refine g_alloc rfl fun _ _ => ?_ | refine g_allocS rfl fun _ _ => ?_ | refine g_storeAgg ?_ | refine g_inBlock ?_ | refine g_block ?_ | refine g_skip ?_ | refine g_condT ?_ | refine g_condF ?_ | refine g_add rfl (by omega) (by omega) ?_ | refine g_sub rfl (by omega) (by omega) ?_ | refine g_exit ?_ | refine g_thenExit ?_ | refine g_exitHere ?_ | refine g_exitOn rfl ?_ | refine g_ret ?_ | refine g_thenRet ?_ | refine g_blockRet ?_ | refine g_passS rfl ?_ | refine g_pass0 ?_ | refine g_passU rfl ?_ | refine g_passUS rfl ?_ | refine g_storeV ?_ | refine g_build1 rfl rfl fun _ _ => ?_ | refine g_buildN rfl rfl fun _ _ => ?_ | refine g_make rfl (by omega) (by omega) fun _ _ => ?_)
    refine g_loop (fun (x : Nat × List Row) => x.1 ≤ tn ∧ x.2.map (·.l) = (B.to.take x.1).foldl (aheadIn i) (aheadTo bl i) ∧ x.2.length = n ∧ ∀ r ∈ x.2, r.l.length ≤ 2 * i + x.1 ∧ ∀ y ∈ r.l, inI y) (fun x => [(24, .int .i64 x.1), (22, .slice ta tn tc), (23, .int .i64 tn), (4, .int .i64 i), (15, .int .i64 i), (13, .slice ba n bc), (14, .int .i64 n), (3, .slice (some ⟨bo, 0, none⟩) n n)])
      (fun x => Ent.vec (some ⟨bo, 0, none⟩) n n 27 1 (x.2.map valR) :: x.2.map entR) (fun x => tn - x.1) (0, rs)
      ⟨Nat.zero_le _, by simpa using hrows, hrl, fun r hr => by simpa using hbd r hr⟩ (g_done (by repeat (first | exact trivial | refine ⟨rfl, ?_⟩)) (List.Sublist.cons _ (List.Sublist.refl _))) fun x ⟨hj, hrows', hrl', hbd'⟩ => ?_
    obtain ⟨j, rs'⟩ := x
    simp only at hj hrows' hrl' hbd' ⊢
    repeat (first | refine g_op rfl ?_ | refine g_then ?_ | refine g_nil ?_ | refine g_region ?_ | refine g_seq ?_ | refine g_opS rfl ?_ | refine g_open ?_ | refine g_pass rfl ?_ | refine g_store ?_ | refine g_box rfl fun _ _ => ?_ | refine g_alloc rfl fun _ _ => ?_ | refine g_allocS rfl fun _ _ => ?_ | refine g_storeAgg ?_ | refine g_inBlock ?_ | refine g_block ?_ | refine g_skip ?_ | refine g_condT ?_ | refine g_condF ?_ | refine g_add rfl (by omega) (by omega) ?_ | refine g_sub rfl (by omega) (by omega) ?_ | refine g_exit ?_ | refine g_thenExit ?_ | refine g_exitHere ?_ | refine g_exitOn rfl ?_ | refine g_ret ?_ | refine g_thenRet ?_ | refine g_blockRet ?_ | refine g_passS rfl ?_ | refine g_pass0 ?_ | refine g_passU rfl ?_ | refine g_passUS rfl ?_ | refine g_storeV ?_ | refine g_build1 rfl rfl fun _ _ => ?_ | refine g_buildN rfl rfl fun _ _ => ?_ | refine g_make rfl (by omega) (by omega) fun _ _ => ?_)
    refine g_cond (fun h2 => ?_) (fun h2 => ?_)
    · have hjlt : j < tn := by simpa using h2
      obtain ⟨t, htj⟩ := get_lt htn hjlt
      have htt := htok.2 t (List.mem_of_getElem? htj)
      obtain ⟨k, hk⟩ : ∃ k : Nat, t = k := ⟨t.toNat, by omega⟩
      have hkn : k < n := by omega
      have hkl : k < rs'.length := by omega
      obtain ⟨r, hr⟩ : ∃ r, rs'[k]? = some r := ⟨_, List.getElem?_eq_getElem hkl⟩
      have had2 : AddrIs ta tb to' := ⟨hta (ne_of_get htj)⟩
      have hli2 : LtIs j tn := ⟨hjlt⟩
      have hli3 : LtIs k n := ⟨hkn⟩
      have hni : NatIs t k := ⟨hk⟩
      obtain ⟨cs2, hcs2, rfl, _⟩ := htel j t htj
      have hci2 : CellsIs w0 tb (to' + j * 1) _ := ⟨hcs2⟩
      have hxa : XAt (rs'.map valR) (k * 1) (.slice r.a r.l.length r.c) := ⟨by simp [hr, valR]⟩
      have hrb := hbd' r (List.mem_of_getElem? hr)
      repeat (first | refine g_op rfl ?_ | refine g_then ?_ | refine g_nil ?_ | refine g_region ?_ | refine g_seq ?_ | refine g_opS rfl ?_ | refine g_open ?_ | refine g_pass rfl ?_ | refine g_store ?_ | refine g_box rfl fun _ _ => ?_ | refine g_alloc rfl fun _ _ => ?_ | refine g_allocS rfl fun _ _ => ?_ | refine g_storeAgg ?_ | refine g_inBlock ?_ | refine g_block ?_ | refine g_skip ?_ | refine g_condT ?_ | refine g_condF ?_ | refine g_add rfl (by omega) (by omega) ?_ | refine g_sub rfl (by omega) (by omega) ?_ | refine g_exit ?_ | refine g_thenExit ?_ | refine g_exitHere ?_ | refine g_exitOn rfl ?_ | refine g_ret ?_ | refine g_thenRet ?_ | refine g_blockRet ?_ | refine g_passS rfl ?_ | refine g_pass0 ?_ | refine g_passU rfl ?_ | refine g_passUS rfl ?_ | refine g_storeV ?_ | refine g_build1 rfl rfl fun _ _ => ?_ | refine g_buildN rfl rfl fun _ _ => ?_ | refine g_make rfl (by omega) (by omega) fun _ _ => ?_)
      rename_i bt _
      have htok1 := htok.1
      refine g_appendAt (k + 2) (xs := r.l.map (.int .i64)) (e := 3) (by simp [hr, entR]) rfl rfl (by omega) (by omega) fun a' c' => ?_
      refine g_eqH (H1 := Ent.vec (some ⟨bt, 0, none⟩) 1 1 3 1 [.int .i64 i] :: Ent.vec (some ⟨bo, 0, none⟩) n n 27 1 (rs'.map valR) :: (rs'.set k ⟨a', c', r.l ++ [(i : Int)]⟩).map entR) (by simp [entR, List.map_set]) ?_
      have hxs : XSet (rs'.map valR) (k * 1) (.slice a' (r.l.length + 1) c') ((rs'.set k ⟨a', c', r.l ++ [(i : Int)]⟩).map valR) := ⟨by simp [valR, List.map_set], by simpa using hkl⟩
      repeat (first | refine g_op rfl ?_ | refine g_then ?_ | refine g_nil ?_ | refine g_region ?_ | refine g_seq ?_ | refine g_opS rfl ?_ | refine g_open ?_ | refine g_pass rfl ?_ | refine g_store ?_ | refine g_box rfl fun _ _ => ?_ | refine g_alloc rfl fun _ _ => ?_ | refine g_allocS rfl fun _ _ => ?_ | refine g_storeAgg ?_ | refine g_inBlock ?_ | refine g_block ?_ | refine g_skip ?_ | refine g_condT ?_ | refine g_condF ?_ | refine g_add rfl (by omega) (by omega) ?_ | refine g_sub rfl (by omega) (by omega) ?_ | refine g_exit ?_ | refine g_thenExit ?_ | refine g_exitHere ?_ | refine g_exitOn rfl ?_ | refine g_ret ?_ | refine g_thenRet ?_ | refine g_blockRet ?_ | refine g_passS rfl ?_ | refine g_pass0 ?_ | refine g_passU rfl ?_ | refine g_passUS rfl ?_ | refine g_storeV ?_ | refine g_build1 rfl rfl fun _ _ => ?_ | refine g_buildN rfl rfl fun _ _ => ?_ | refine g_make rfl (by omega) (by omega) fun _ _ => ?_)
      refine g_next (j + 1, rs'.set k ⟨a', c', r.l ++ [(i : Int)]⟩) ⟨hjlt, ?_, by simpa using hrl', ?_⟩ (by simp only; omega) (by repeat (first | exact trivial | refine ⟨rfl, ?_⟩)) (List.Sublist.cons _ (List.Sublist.refl _))
      · simp only
        rw [List.take_add_one, htj]
        simp only [Option.toList_some, List.foldl_append, List.foldl_cons, List.foldl_nil]
        rw [← hrows', aheadIn, show t.toNat = k by omega]
        exact map_set_modify hr rfl
      · intro q hq
        rcases List.mem_or_eq_of_mem_set hq with hq | rfl
        · have := hbd' q hq
          exact ⟨by simp only; omega, this.2⟩
        · refine ⟨by simp only [List.length_append, List.length_singleton]; omega, fun y hy => ?_⟩
          rcases List.mem_append.1 hy with hy | hy
          · exact hrb.2 y hy
          · simp only [List.mem_singleton] at hy
            subst hy
            simp only [inI]; omega
    · have hge : j = tn := by have := h2; simp at this; omega
      repeat (first | refine g_op rfl ?_ | refine g_then ?_ | refine g_nil ?_ | refine g_region ?_ | refine g_seq ?_ | refine g_opS rfl ?_ | refine g_open ?_ | refine g_pass rfl ?_ | refine g_store ?_ | refine g_box rfl fun _ _ => ?_ | refine g_alloc rfl fun _ _ => ?_ | refine g_allocS rfl fun _ _ => ?_ | refine g_storeAgg ?_ | refine g_inBlock ?_ | refine g_block ?_ | refine g_skip ?_ | refine g_condT ?_ | refine g_condF ?_ | refine g_add rfl (by omega) (by omega) ?_ | refine g_sub rfl (by omega) (by omega) ?_ | refine g_exit ?_ | refine g_thenExit ?_ | refine g_exitHere ?_ | refine g_exitOn rfl ?_ | refine g_ret ?_ | refine g_thenRet ?_ | refine g_blockRet ?_ | refine g_passS rfl ?_ | refine g_pass0 ?_ | refine g_passU rfl ?_ | refine g_passUS rfl ?_ | refine g_storeV ?_ | refine g_build1 rfl rfl fun _ _ => ?_ | refine g_buildN rfl rfl fun _ _ => ?_ | refine g_make rfl (by omega) (by omega) fun _ _ => ?_)
      refine g_next (i + 1, rs') ⟨hlt, ?_, hrl', fun r hr => ?_⟩ (by simp only; omega) (by repeat (first | exact trivial | refine ⟨rfl, ?_⟩)) (List.Sublist.refl _)
      · simp only [aheadTo, hB]
        rw [hrows', hge, htn, List.take_length]
      · have := hbd' r hr
        have htok1 := htok.1
        exact ⟨by simp only; omega, this.2⟩
  · have hge : i = n := by have := h1; simp at this; omega
    repeat (first | refine g_op rfl ?_ | refine g_then ?_ | refine g_nil ?_ | refine g_region ?_ | refine g_seq ?_ | refine g_opS rfl ?_ | refine g_open ?_ | refine g_pass rfl ?_ | refine g_store ?_ | refine g_box rfl fun _ _ => ?_ | refine g_alloc rfl fun _ _ => ?_ | refine g_allocS rfl fun _ _ => ?_ | refine g_storeAgg ?_ | refine g_inBlock ?_ | refine g_block ?_ | refine g_skip ?_ | refine g_condT ?_ | refine g_condF ?_ | refine g_add rfl (by omega) (by omega) ?_ | refine g_sub rfl (by omega) (by omega) ?_ | refine g_exit ?_ | refine g_thenExit ?_ | refine g_exitHere ?_ | refine g_exitOn rfl ?_ | refine g_ret ?_ | refine g_thenRet ?_ | refine g_blockRet ?_ | refine g_passS rfl ?_ | refine g_pass0 ?_ | refine g_passU rfl ?_ | refine g_passUS rfl ?_ | refine g_storeV ?_ | refine g_build1 rfl rfl fun _ _ => ?_ | refine g_buildN rfl rfl fun _ _ => ?_ | refine g_make rfl (by omega) (by omega) fun _ _ => ?_)
    refine g_ret1 rfl fun w hw => ⟨((some ⟨bo, 0, none⟩, n, n), fps (Ent.vec (some ⟨bo, 0, none⟩) n n 27 1 (rs.map valR) :: rs.map entR)), rfl, ?_, trivial⟩
    have hw' : Wd NoS w0 ((Ent.vec (some ⟨bo, 0, none⟩) n n 27 1 (rs.map valR) :: rs.map entR) ++ []) w := by rw [List.append_nil]; exact hw
    refine hw'.pack _ fun w2 hw2 => ?_
    have := rows_sl (H := []) (by rw [List.append_nil]; exact hw2) hrl.symm (by omega) fun r hr => ⟨by have := (hbd r hr).1; omega, (hbd r hr).2⟩
    rw [hrows, hge, hn] at this
    exact hn ▸ this
end Go.Proofs.YtebajiafdkokjaaDoor
