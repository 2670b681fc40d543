/- turneryref3.Ends, dom.sure, turneryref3.SureTable: what each returns. -/
import Derived.Test.YtebajiafdkokjaaDoorSureA
import Derived.Test.YtebajiafdkokjaaDoorAhead
namespace Go.Proofs.YtebajiafdkokjaaDoor
open Go Go.RowKit
attribute [local irreducible] wpListIn Code.wpIn Exit.then Exit.inBlock bodyPost wpQuiet wpAnyIn
set_option maxHeartbeats 2000000

/-- a place that a packed piece tells of -/
class PackCell (F : World → Prop) (b off : Nat) (v : outParam Value) : Prop where
  eq : ∀ w, F w → w.cell? ⟨b, off, none⟩ = some v
instance (fp : Nat → Prop) (F : World → Prop) (b off : Nat) (v : Value) (H : List Ent) [h : PackCell F b off v] : OwnCell (⟨fp, F⟩ :: H) b off v := ⟨fun _ _ w hw => h.eq w (hw.get (k := 0) rfl)⟩

open Classical in
theorem refEnds_c (nm pa re : Value) (bl : List LBlock) (bs : Value) (b : Nat) (wo : Int) (w0 : World) (hbs : SlAt w0 bs 6 bl BlockV) (hlen : bl.length ≤ 100) (hok : GoodB bl) (hb : b < bl.length) :
    RetV Tryd.prog 87 [.agg #[nm, pa, re, bs], .int .i64 b, .int .i64 wo] w0 (.bool (decide (CanEnd bl wo b))) := by
  have hbs0 := hbs
  obtain ⟨ba, n, bc, bb, bo', rfl, hn, hnc, hnb, hbc, hba, hel⟩ := hbs
  refine ret_enter Tryd.func87 rfl Tryd.ntmps87 rfl (Wd.nil NoS w0) ?_
  repeat (first | refine g_op rfl ?_ | refine g_then ?_ | refine g_nil ?_ | refine g_region ?_ | refine g_seq ?_ | refine g_opS rfl ?_ | refine g_open ?_ | refine g_pass rfl ?_ | refine g_store ?_ | refine g_box rfl fun _ _ => ?_ | refine g_alloc rfl fun _ _ => ?_ | refine g_allocS rfl fun _ _ => ?_ | refine g_storeAgg ?_ | refine g_inBlock ?_ | refine g_block ?_ | refine g_skip ?_ | refine g_condT ?_ | refine g_condF ?_ | refine g_add rfl (by omega) (by omega) ?_ | refine g_sub rfl (by omega) (by omega) ?_ | refine g_exit ?_ | refine g_thenExit ?_ | refine g_exitHere ?_ | refine g_exitOn rfl ?_ | refine g_ret ?_ | refine g_thenRet ?_ | refine g_blockRet ?_ | refine g_passS rfl ?_ | refine g_pass0 ?_ | refine g_passU rfl ?_ | refine g_passUS rfl ?_ | refine g_storeV ?_ | refine g_build1 rfl rfl fun _ _ => ?_ | refine g_buildN rfl rfl fun _ _ => ?_ | refine g_make rfl (by omega) (by omega) fun _ _ => ?_)
  rename_i p3 _
  refine g_callE (val := fun x : Option Addr × Nat × List Nat => .slice x.1 x.2.2.length x.2.1) (E := fun x => [Ent.vec x.1 x.2.2.length x.2.1 3 1 (x.2.2.map intN)]) (φ := fun x => FromR bl wo b x.2.2) rfl (fun w hw => refFrom_c _ _ _ bl _ b wo w (hbs0.keep keeps_block hw.chg) hlen hok hb) fun x hx => ?_
  obtain ⟨xa, xc, l⟩ := x
  simp only [List.cons_append, List.nil_append] at hx ⊢
  have hll : l.length ≤ bl.length := nodup_len _ _ hx.1 hx.2.1
  repeat (first | refine g_op rfl ?_ | refine g_then ?_ | refine g_nil ?_ | refine g_region ?_ | refine g_seq ?_ | refine g_opS rfl ?_ | refine g_open ?_ | refine g_pass rfl ?_ | refine g_store ?_ | refine g_box rfl fun _ _ => ?_ | refine g_alloc rfl fun _ _ => ?_ | refine g_allocS rfl fun _ _ => ?_ | refine g_storeAgg ?_ | refine g_inBlock ?_ | refine g_block ?_ | refine g_skip ?_ | refine g_condT ?_ | refine g_condF ?_ | refine g_add rfl (by omega) (by omega) ?_ | refine g_sub rfl (by omega) (by omega) ?_ | refine g_exit ?_ | refine g_thenExit ?_ | refine g_exitHere ?_ | refine g_exitOn rfl ?_ | refine g_ret ?_ | refine g_thenRet ?_ | refine g_blockRet ?_ | refine g_passS rfl ?_ | refine g_pass0 ?_ | refine g_passU rfl ?_ | refine g_passUS rfl ?_ | refine g_storeV ?_ | refine g_build1 rfl rfl fun _ _ => ?_ | refine g_buildN rfl rfl fun _ _ => ?_ | refine g_make rfl (by omega) (by omega) fun _ _ => ?_)
  refine g_loop (fun (x : Nat × Option Addr) => x.1 ≤ l.length ∧ ∀ j y, j < x.1 → l[j]? = some y → kindOf bl y ≠ 1) (fun x => [(8, .int .i64 x.1), (7, .slice x.2 l.length xc), (3, .pointer (some ⟨p3, 0, none⟩))])
    (fun x => [Ent.vec x.2 l.length xc 3 1 (l.map intN), Ent.box p3 [nm, pa, re, .slice ba n bc] 35]) (fun x => l.length - x.1) (0, xa) ⟨Nat.zero_le _, by simp⟩ (g_done (by repeat (first | exact trivial | refine ⟨rfl, ?_⟩)) (List.Sublist.refl _)) fun x ⟨hi, hall⟩ => ?_
  obtain ⟨i, xa⟩ := x
  simp only at hi hall ⊢
  repeat (first | refine g_op rfl ?_ | refine g_then ?_ | refine g_nil ?_ | refine g_region ?_ | refine g_seq ?_ | refine g_opS rfl ?_ | refine g_open ?_ | refine g_pass rfl ?_ | refine g_store ?_ | refine g_box rfl fun _ _ => ?_ | refine g_alloc rfl fun _ _ => ?_ | refine g_allocS rfl fun _ _ => ?_ | refine g_storeAgg ?_ | refine g_inBlock ?_ | refine g_block ?_ | refine g_skip ?_ | refine g_condT ?_ | refine g_condF ?_ | refine g_add rfl (by omega) (by omega) ?_ | refine g_sub rfl (by omega) (by omega) ?_ | refine g_exit ?_ | refine g_thenExit ?_ | refine g_exitHere ?_ | refine g_exitOn rfl ?_ | refine g_ret ?_ | refine g_thenRet ?_ | refine g_blockRet ?_ | refine g_passS rfl ?_ | refine g_pass0 ?_ | refine g_passU rfl ?_ | refine g_passUS rfl ?_ | refine g_storeV ?_ | refine g_build1 rfl rfl fun _ _ => ?_ | refine g_buildN rfl rfl fun _ _ => ?_ | refine g_make rfl (by omega) (by omega) fun _ _ => ?_)
  refine g_cond (fun h1 => ?_) (fun h1 => ?_)
  · have hil : i < l.length := by simpa using h1
    refine g_vec 0 rfl (by omega) fun rb ro hra => ?_
    subst hra
    obtain ⟨x0, hx0⟩ : ∃ x0, l[i]? = some x0 := ⟨_, List.getElem?_eq_getElem hil⟩
    have hx0n : x0 < n := by rw [hn]; exact hx.2.1 x0 (List.mem_of_getElem? hx0)
    obtain ⟨B, hB⟩ := get_lt hn hx0n
    have had : AddrIs ba bb bo' := ⟨hba (ne_of_get hB)⟩
    have hli : LtIs x0 n := ⟨hx0n⟩
    have hli1 : LtIs i l.length := ⟨hil⟩
    obtain ⟨cs, hcs, pv, lv, tv, rfl, _, _, _, _, _⟩ := hel x0 B hB
    have hci : CellsIs w0 bb (bo' + x0 * 6) _ := ⟨hcs⟩
    have hxat : XAt (l.map intN) (i * 1) (.int .i64 (x0 : Int)) := ⟨by simp [hx0, intN]⟩
    have hkind : kindOf bl x0 = B.kind := by simp [kindOf, hB]
    repeat (first | refine g_op rfl ?_ | refine g_then ?_ | refine g_nil ?_ | refine g_region ?_ | refine g_seq ?_ | refine g_opS rfl ?_ | refine g_open ?_ | refine g_pass rfl ?_ | refine g_store ?_ | refine g_box rfl fun _ _ => ?_ | refine g_alloc rfl fun _ _ => ?_ | refine g_allocS rfl fun _ _ => ?_ | refine g_storeAgg ?_ | refine g_inBlock ?_ | refine g_block ?_ | refine g_skip ?_ | refine g_condT ?_ | refine g_condF ?_ | refine g_add rfl (by omega) (by omega) ?_ | refine g_sub rfl (by omega) (by omega) ?_ | refine g_exit ?_ | refine g_thenExit ?_ | refine g_exitHere ?_ | refine g_exitOn rfl ?_ | refine g_ret ?_ | refine g_thenRet ?_ | refine g_blockRet ?_ | refine g_passS rfl ?_ | refine g_pass0 ?_ | refine g_passU rfl ?_ | refine g_passUS rfl ?_ | refine g_storeV ?_ | refine g_build1 rfl rfl fun _ _ => ?_ | refine g_buildN rfl rfl fun _ _ => ?_ | refine g_make rfl (by omega) (by omega) fun _ _ => ?_)
    refine g_draw mixed (by kernel_rfl) ?_
    repeat (first | refine q_op rfl ?_ | refine q_opS rfl ?_ | refine q_open ?_ | refine q_pass rfl ?_ | refine q_passU rfl ?_ | refine q_add rfl (by omega) (by omega) ?_ | refine q_sub rfl (by omega) (by omega) ?_ | refine q_nil ?_)
    repeat (first | refine g_op rfl ?_ | refine g_then ?_ | refine g_nil ?_ | refine g_region ?_ | refine g_seq ?_ | refine g_opS rfl ?_ | refine g_open ?_ | refine g_pass rfl ?_ | refine g_store ?_ | refine g_box rfl fun _ _ => ?_ | refine g_alloc rfl fun _ _ => ?_ | refine g_allocS rfl fun _ _ => ?_ | refine g_storeAgg ?_ | refine g_inBlock ?_ | refine g_block ?_ | refine g_skip ?_ | refine g_condT ?_ | refine g_condF ?_ | refine g_add rfl (by omega) (by omega) ?_ | refine g_sub rfl (by omega) (by omega) ?_ | refine g_exit ?_ | refine g_thenExit ?_ | refine g_exitHere ?_ | refine g_exitOn rfl ?_ | refine g_ret ?_ | refine g_thenRet ?_ | refine g_blockRet ?_ | refine g_passS rfl ?_ | refine g_pass0 ?_ | refine g_passU rfl ?_ | refine g_passUS rfl ?_ | refine g_storeV ?_ | refine g_build1 rfl rfl fun _ _ => ?_ | refine g_buildN rfl rfl fun _ _ => ?_ | refine g_make rfl (by omega) (by omega) fun _ _ => ?_)
    refine g_cond (fun h2 => ?_) (fun h2 => ?_)
    · repeat (first | refine g_op rfl ?_ | refine g_then ?_ | refine g_nil ?_ | refine g_region ?_ | refine g_seq ?_ | refine g_opS rfl ?_ | refine g_open ?_ | refine g_pass rfl ?_ | refine g_store ?_ | refine g_box rfl fun _ _ => ?_ | refine g_alloc rfl fun _ _ => ?_ | refine g_allocS rfl fun _ _ => ?_ | refine g_storeAgg ?_ | refine g_inBlock ?_ | refine g_block ?_ | refine g_skip ?_ | refine g_condT ?_ | refine g_condF ?_ | refine g_add rfl (by omega) (by omega) ?_ | refine g_sub rfl (by omega) (by omega) ?_ | refine g_exit ?_ | refine g_thenExit ?_ | refine g_exitHere ?_ | refine g_exitOn rfl ?_ | refine g_ret ?_ | refine g_thenRet ?_ | refine g_blockRet ?_ | refine g_passS rfl ?_ | refine g_pass0 ?_ | refine g_passU rfl ?_ | refine g_passUS rfl ?_ | refine g_storeV ?_ | refine g_build1 rfl rfl fun _ _ => ?_ | refine g_buildN rfl rfl fun _ _ => ?_ | refine g_make rfl (by omega) (by omega) fun _ _ => ?_)
      refine g_retV rfl ?_
      have hm := (hx.2.2 x0).1 (List.mem_of_getElem? hx0)
      have hce : CanEnd bl wo b := ⟨hm.1, x0, hm.2, by rw [hkind]; simpa using h2⟩
      rw [decide_eq_true hce]
    · repeat (first | refine g_op rfl ?_ | refine g_then ?_ | refine g_nil ?_ | refine g_region ?_ | refine g_seq ?_ | refine g_opS rfl ?_ | refine g_open ?_ | refine g_pass rfl ?_ | refine g_store ?_ | refine g_box rfl fun _ _ => ?_ | refine g_alloc rfl fun _ _ => ?_ | refine g_allocS rfl fun _ _ => ?_ | refine g_storeAgg ?_ | refine g_inBlock ?_ | refine g_block ?_ | refine g_skip ?_ | refine g_condT ?_ | refine g_condF ?_ | refine g_add rfl (by omega) (by omega) ?_ | refine g_sub rfl (by omega) (by omega) ?_ | refine g_exit ?_ | refine g_thenExit ?_ | refine g_exitHere ?_ | refine g_exitOn rfl ?_ | refine g_ret ?_ | refine g_thenRet ?_ | refine g_blockRet ?_ | refine g_passS rfl ?_ | refine g_pass0 ?_ | refine g_passU rfl ?_ | refine g_passUS rfl ?_ | refine g_storeV ?_ | refine g_build1 rfl rfl fun _ _ => ?_ | refine g_buildN rfl rfl fun _ _ => ?_ | refine g_make rfl (by omega) (by omega) fun _ _ => ?_)
      refine g_next (i + 1, some ⟨rb, ro, none⟩) ⟨hil, fun j y hj hy => ?_⟩ (by simp only; omega) (by repeat (first | exact trivial | refine ⟨rfl, ?_⟩)) (List.Sublist.refl _)
      by_cases hji : j = i
      · subst hji
        rw [hx0] at hy
        simp only [Option.some.injEq] at hy
        subst hy
        rw [hkind]; simpa using h2
      · exact hall j y (by simp only at hj; omega) hy
  · have hge : i = l.length := by have := h1; simp at this; omega
    repeat (first | refine g_op rfl ?_ | refine g_then ?_ | refine g_nil ?_ | refine g_region ?_ | refine g_seq ?_ | refine g_opS rfl ?_ | refine g_open ?_ | refine g_pass rfl ?_ | refine g_store ?_ | refine g_box rfl fun _ _ => ?_ | refine g_alloc rfl fun _ _ => ?_ | refine g_allocS rfl fun _ _ => ?_ | refine g_storeAgg ?_ | refine g_inBlock ?_ | refine g_block ?_ | refine g_skip ?_ | refine g_condT ?_ | refine g_condF ?_ | refine g_add rfl (by omega) (by omega) ?_ | refine g_sub rfl (by omega) (by omega) ?_ | refine g_exit ?_ | refine g_thenExit ?_ | refine g_exitHere ?_ | refine g_exitOn rfl ?_ | refine g_ret ?_ | refine g_thenRet ?_ | refine g_blockRet ?_ | refine g_passS rfl ?_ | refine g_pass0 ?_ | refine g_passU rfl ?_ | refine g_passUS rfl ?_ | refine g_storeV ?_ | refine g_build1 rfl rfl fun _ _ => ?_ | refine g_buildN rfl rfl fun _ _ => ?_ | refine g_make rfl (by omega) (by omega) fun _ _ => ?_)
    refine g_retV rfl ?_
    rw [decide_eq_false]
    rintro ⟨hw, y, hr, hk⟩
    have hm := (hx.2.2 y).2 ⟨hw, hr⟩
    obtain ⟨j, hj⟩ := List.getElem?_of_mem hm
    exact hall j y (by have := (List.getElem?_eq_some_iff.1 hj).1; omega) hj hk

theorem row_sl {S : Nat → Prop} {w0 w : World} {rs : List Row} {E H : List Ent} (h : Wd S w0 (E ++ (rs.map entR ++ H)) w) {i : Nat} {r : Row} (hr : rs[i]? = some r) (hl : r.l.length ≤ 1000 ∧ ∀ x ∈ r.l, inI x) : SlAt w (valR r) 1 r.l IntV := by
  have hlt : i < rs.length := (List.getElem?_eq_some_iff.1 hr).1
  refine h.slAt (k := E.length + i) (a := r.a) (n := r.l.length) (c := r.c) (e := 3) (s := 1) (xs := r.l.map (.int .i64)) ?_ rfl (by omega) fun j y hy => ⟨[.int .i64 y], fun k v hk => ?_, rfl, hl.2 y (List.mem_of_getElem? hy)⟩
  · rw [List.getElem?_append_right (by omega), show E.length + i - E.length = i by omega, List.getElem?_append_left (by simpa using hlt), List.getElem?_map, hr]; rfl
  · match k, hk with
    | 0, hk => simpa [hy] using hk
/-- a table of rows of numbers, as one reads it -/
def tabF (bo : Nat) (rs : List Row) (w : World) : Prop := ∀ i r, rs[i]? = some r → w.cell? ⟨bo, i, none⟩ = some (valR r) ∧ SlAt w (valR r) 1 r.l IntV
theorem Wd.tab {S : Nat → Prop} {w0 w : World} {rs : List Row} {bo n e : Nat} (h : Wd S w0 (Ent.vec (some ⟨bo, 0, none⟩) n n e 1 (rs.map valR) :: rs.map entR) w) (hl : ∀ r ∈ rs, r.l.length ≤ 1000 ∧ ∀ x ∈ r.l, inI x) :
    Wd S w0 [⟨fps (Ent.vec (some ⟨bo, 0, none⟩) n n e 1 (rs.map valR) :: rs.map entR), tabF bo rs⟩] w := by
  have h1 : Wd S w0 ((Ent.vec (some ⟨bo, 0, none⟩) n n e 1 (rs.map valR) :: rs.map entR) ++ []) w := by rw [List.append_nil]; exact h
  refine h1.pack _ fun w2 hw2 i r hr => ⟨?_, ?_⟩
  · have := hw2.vecCell (k := 0) (j := i) (v := valR r) rfl (by rw [List.getElem?_map, hr]; rfl)
    simpa using this
  · exact row_sl (E := [Ent.vec (some ⟨bo, 0, none⟩) n n e 1 (rs.map valR)]) (H := []) (by rw [List.append_nil]; exact hw2) hr (hl r (List.mem_of_getElem? hr))
noncomputable def tableL (bl : List LBlock) : List (List Int) := (List.range bl.length).map fun b => (sureTo bl b bl.length).map fun x : Nat => (x : Int)
/-- rows as they stand: those below b are done, row b up to c -/
noncomputable def tableTo (bl : List LBlock) (b c i : Nat) : List Int := (sureTo bl i (if i < b then bl.length else if i = b then c else 0)).map fun x : Nat => (x : Int)
theorem sureTo_len (bl : List LBlock) (b n : Nat) : (sureTo bl b n).length ≤ n := by
  have := List.length_filter_le (fun c => @decide (Sure bl b c) (Classical.propDecidable _)) (List.range n)
  rw [List.length_range] at this
  exact this
theorem tableTo_bd (bl : List LBlock) (hlen : bl.length ≤ 100) (b c i : Nat) (hc : c ≤ 100) : (tableTo bl b c i).length ≤ 100 ∧ ∀ x ∈ tableTo bl b c i, inI x := by
  have h1 : (if i < b then bl.length else if i = b then c else 0) ≤ 100 := by split <;> (try split) <;> omega
  refine ⟨?_, fun x hx => ?_⟩
  · rw [tableTo, List.length_map]
    exact Nat.le_trans (sureTo_len _ _ _) h1
  · rw [tableTo] at hx
    obtain ⟨y, hy, rfl⟩ := List.mem_map.1 hx
    have := (List.mem_filter.1 hy).1
    have : y < _ := List.mem_range.1 this
    simp only [inI]; omega
theorem tableTo_succ {bl : List LBlock} {b c i : Nat} : tableTo bl b (c + 1) i = if i = b then tableTo bl b c b ++ (open Classical in if Sure bl b c then [(c : Int)] else []) else tableTo bl b c i := by
  classical
  by_cases hi : i = b
  · subst hi
    simp only [tableTo, Nat.lt_irrefl, if_false, if_true, sureTo]
    rw [filterTo_succ c, List.map_append]
    congr 1
    by_cases h : Sure bl i c <;> simp [h]
  · simp only [tableTo, if_neg hi]
theorem tableTo_next {bl : List LBlock} {b i : Nat} : tableTo bl (b + 1) 0 i = tableTo bl b bl.length i := by
  unfold tableTo
  congr 1
  by_cases h1 : i < b
  · simp [h1, show i < b + 1 by omega]
  · by_cases h2 : i = b
    · subst h2; simp
    · rw [if_neg (by omega), if_neg h1, if_neg h2]
      by_cases h3 : i = b + 1 <;> simp [h3]
theorem tableTo_none {bl : List LBlock} {b c i : Nat} (h : ¬ CanEnd bl (-1) b) : tableTo bl b c i = tableTo bl b 0 i := by
  classical
  unfold tableTo
  by_cases h1 : i = b
  · subst h1
    simp only [Nat.lt_irrefl, if_false, if_true]
    congr 1
    simp only [sureTo, List.range_zero, List.filter_nil]
    rw [List.filter_eq_nil_iff]
    intro x _
    simp [Sure, h]
  · simp only [if_neg h1]
theorem sureTable_c (nm pa re : Value) (bl : List LBlock) (bs : Value) (w0 : World) (hbs : SlAt w0 bs 6 bl BlockV) (hlen : bl.length ≤ 100) (hok : GoodB bl) :
    Ret Tryd.prog 53 [.agg #[nm, pa, re, bs]] w0 fun u w' => ∃ x : Nat × (Nat → Prop) × List Row, u = .slice (some ⟨x.1, 0, none⟩) bl.length bl.length ∧ Wd NoS w0 [⟨x.2.1, tabF x.1 x.2.2⟩] w' ∧ x.2.2.map (·.l) = tableL bl := by
  classical
  have hbs0 := hbs
  obtain ⟨ba, n, bc, bb, bo', rfl, hn, hnc, hnb, hbc, hba, hel⟩ := hbs
  rw [← hn] at hlen ⊢
  refine ret_enter Tryd.func53 rfl Tryd.ntmps53 rfl (Wd.nil NoS w0) ?_
  repeat (first | refine g_op rfl ?_ | refine g_then ?_ | refine g_nil ?_ | refine g_region ?_ | refine g_seq ?_ | refine g_opS rfl ?_ | refine g_open ?_ | refine g_pass rfl ?_ | refine g_store ?_ | refine g_box rfl fun _ _ => ?_ | refine g_alloc rfl fun _ _ => ?_ | refine g_allocS rfl fun _ _ => ?_ | refine g_storeAgg ?_ | refine g_inBlock ?_ | refine g_block ?_ | refine g_skip ?_ | refine g_condT ?_ | refine g_condF ?_ | refine g_add rfl (by omega) (by omega) ?_ | refine g_sub rfl (by omega) (by omega) ?_ | refine g_exit ?_ | refine g_thenExit ?_ | refine g_exitHere ?_ | refine g_exitOn rfl ?_ | refine g_ret ?_ | refine g_thenRet ?_ | refine g_blockRet ?_ | refine g_passS rfl ?_ | refine g_pass0 ?_ | refine g_passU rfl ?_ | refine g_passUS rfl ?_ | refine g_storeV ?_ | refine g_build1 rfl rfl fun _ _ => ?_ | refine g_buildN rfl rfl fun _ _ => ?_ | refine g_make rfl (by omega) (by omega) fun _ _ => ?_)
  rename_i p1 _ bo _
  refine g_nilVecs 3 1 n ?_
  rw [show (List.replicate n (Value.slice none 0 0)) = (List.replicate n (⟨none, 0, []⟩ : Row)).map valR by simp [valR], show (List.replicate n (Ent.vec none 0 0 3 1 [])) = (List.replicate n (⟨none, 0, []⟩ : Row)).map entR by simp [entR]]
  refine g_permH (H1 := Ent.box p1 [nm, pa, re, .slice ba n bc] 35 :: Ent.vec (some ⟨bo, 0, none⟩) n n 27 1 ((List.replicate n (⟨none, 0, []⟩ : Row)).map valR) :: (List.replicate n (⟨none, 0, []⟩ : Row)).map entR) (List.Perm.swap _ _ _) ?_
  refine g_loop (fun (x : Nat × List Row) => x.1 ≤ n ∧ x.2.length = n ∧ ∀ i r, x.2[i]? = some r → r.l = tableTo bl x.1 0 i) (fun x => [(4, .int .i64 x.1), (3, .slice (some ⟨bo, 0, none⟩) n n), (1, .pointer (some ⟨p1, 0, none⟩))])
    (fun x => Ent.box p1 [nm, pa, re, .slice ba n bc] 35 :: Ent.vec (some ⟨bo, 0, none⟩) n n 27 1 (x.2.map valR) :: x.2.map entR) (fun x => n - x.1) (0, List.replicate n ⟨none, 0, []⟩)
    ⟨Nat.zero_le _, by simp, fun i r hr => ?_⟩ (g_done (by repeat (first | exact trivial | refine ⟨rfl, ?_⟩)) (List.Sublist.refl _)) fun x ⟨hi, hrl, hrows⟩ => ?_
  · simp only [List.getElem?_replicate] at hr
    split at hr
    · simp only [Option.some.injEq] at hr
      subst hr
      simp [tableTo, sureTo]
    · cases hr
  obtain ⟨b, rs⟩ := x
  simp only at hi hrl hrows ⊢
  repeat (first | refine g_op rfl ?_ | refine g_then ?_ | refine g_nil ?_ | refine g_region ?_ | refine g_seq ?_ | refine g_opS rfl ?_ | refine g_open ?_ | refine g_pass rfl ?_ | refine g_store ?_ | refine g_box rfl fun _ _ => ?_ | refine g_alloc rfl fun _ _ => ?_ | refine g_allocS rfl fun _ _ => ?_ | refine g_storeAgg ?_ | refine g_inBlock ?_ | refine g_block ?_ | refine g_skip ?_ | refine g_condT ?_ | refine g_condF ?_ | refine g_add rfl (by omega) (by omega) ?_ | refine g_sub rfl (by omega) (by omega) ?_ | refine g_exit ?_ | refine g_thenExit ?_ | refine g_exitHere ?_ | refine g_exitOn rfl ?_ | refine g_ret ?_ | refine g_thenRet ?_ | refine g_blockRet ?_ | refine g_passS rfl ?_ | refine g_pass0 ?_ | refine g_passU rfl ?_ | refine g_passUS rfl ?_ | refine g_storeV ?_ | refine g_build1 rfl rfl fun _ _ => ?_ | refine g_buildN rfl rfl fun _ _ => ?_ | refine g_make rfl (by omega) (by omega) fun _ _ => ?_)
  refine g_cond (fun h1 => ?_) (fun h1 => ?_)
  · have hlt : b < n := by simpa using h1
    repeat (first | refine g_op rfl ?_ | refine g_then ?_ | refine g_nil ?_ | refine g_region ?_ | refine g_seq ?_ | refine g_opS rfl ?_ | refine g_open ?_ | refine g_pass rfl ?_ | refine g_store ?_ | refine g_box rfl fun _ _ => ?_ | refine g_alloc rfl fun _ _ => ?_ | refine g_allocS rfl fun _ _ => ?_ | refine g_storeAgg ?_ | refine g_inBlock ?_ | refine g_block ?_ | refine g_skip ?_ | refine g_condT ?_ | refine g_condF ?_ | refine g_add rfl (by omega) (by omega) ?_ | refine g_sub rfl (by omega) (by omega) ?_ | refine g_exit ?_ | refine g_thenExit ?_ | refine g_exitHere ?_ | refine g_exitOn rfl ?_ | refine g_ret ?_ | refine g_thenRet ?_ | refine g_blockRet ?_ | refine g_passS rfl ?_ | refine g_pass0 ?_ | refine g_passU rfl ?_ | refine g_passUS rfl ?_ | refine g_storeV ?_ | refine g_build1 rfl rfl fun _ _ => ?_ | refine g_buildN rfl rfl fun _ _ => ?_ | refine g_make rfl (by omega) (by omega) fun _ _ => ?_)
    refine g_callV rfl (fun w hw => refEnds_c _ _ _ bl _ b (-1) w (hbs0.keep keeps_block hw.chg) (by omega) hok (by omega)) ?_
    generalize he1 : decide (CanEnd bl (-1) b) = e1
    cases e1
    · have hno : ¬ CanEnd bl (-1) b := by simpa using he1
      repeat (first | refine g_op rfl ?_ | refine g_then ?_ | refine g_nil ?_ | refine g_region ?_ | refine g_seq ?_ | refine g_opS rfl ?_ | refine g_open ?_ | refine g_pass rfl ?_ | refine g_store ?_ | refine g_box rfl fun _ _ => ?_ | refine g_alloc rfl fun _ _ => ?_ | refine g_allocS rfl fun _ _ => ?_ | refine g_storeAgg ?_ | refine g_inBlock ?_ | refine g_block ?_ | refine g_skip ?_ | refine g_condT ?_ | refine g_condF ?_ | refine g_add rfl (by omega) (by omega) ?_ | refine g_sub rfl (by omega) (by omega) ?_ | refine g_exit ?_ | refine g_thenExit ?_ | refine g_exitHere ?_ | refine g_exitOn rfl ?_ | refine g_ret ?_ | refine g_thenRet ?_ | refine g_blockRet ?_ | refine g_passS rfl ?_ | refine g_pass0 ?_ | refine g_passU rfl ?_ | refine g_passUS rfl ?_ | refine g_storeV ?_ | refine g_build1 rfl rfl fun _ _ => ?_ | refine g_buildN rfl rfl fun _ _ => ?_ | refine g_make rfl (by omega) (by omega) fun _ _ => ?_)
      refine g_next (b + 1, rs) ⟨hlt, hrl, fun i r hr => ?_⟩ (by simp only; omega) (by repeat (first | exact trivial | refine ⟨rfl, ?_⟩)) (List.Sublist.refl _)
      rw [hrows i r hr, tableTo_next, tableTo_none (c := bl.length) hno]
    have hce : CanEnd bl (-1) b := by simpa using he1
    repeat (first | refine g_op rfl ?_ | refine g_then ?_ | refine g_nil ?_ | refine g_region ?_ | refine g_seq ?_ | refine g_opS rfl ?_ | refine g_open ?_ | refine g_pass rfl ?_ | refine g_store ?_ | refine g_box rfl fun _ _ => ?_ | refine g_alloc rfl fun _ _ => ?_ | refine g_allocS rfl fun _ _ => ?_ | refine g_storeAgg ?_ | refine g_inBlock ?_ | refine g_block ?_ | refine g_skip ?_ | refine g_condT ?_ | refine g_condF ?_ | refine g_add rfl (by omega) (by omega) ?_ | refine g_sub rfl (by omega) (by omega) ?_ | refine g_exit ?_ | refine g_thenExit ?_ | refine g_exitHere ?_ | refine g_exitOn rfl ?_ | refine g_ret ?_ | refine g_thenRet ?_ | refine g_blockRet ?_ | refine g_passS rfl ?_ | refine g_pass0 ?_ | refine g_passU rfl ?_ | refine g_passUS rfl ?_ | refine g_storeV ?_ | refine g_build1 rfl rfl fun _ _ => ?_ | refine g_buildN rfl rfl fun _ _ => ?_ | refine g_make rfl (by omega) (by omega) fun _ _ => ?_)
    refine g_loop (fun (x : Nat × List Row) => x.1 ≤ n ∧ x.2.length = n ∧ ∀ i r, x.2[i]? = some r → r.l = tableTo bl b x.1 i) (fun x => [(5, .int .i64 x.1), (4, .int .i64 b), (3, .slice (some ⟨bo, 0, none⟩) n n), (1, .pointer (some ⟨p1, 0, none⟩))])
      (fun x => Ent.box p1 [nm, pa, re, .slice ba n bc] 35 :: Ent.vec (some ⟨bo, 0, none⟩) n n 27 1 (x.2.map valR) :: x.2.map entR) (fun x => n - x.1) (0, rs)
      ⟨Nat.zero_le _, hrl, hrows⟩ (g_done (by repeat (first | exact trivial | refine ⟨rfl, ?_⟩)) (List.Sublist.refl _)) fun x ⟨hj, hrl', hrows'⟩ => ?_
    obtain ⟨c, rs'⟩ := x
    simp only at hj hrl' hrows' ⊢
    repeat (first | refine g_op rfl ?_ | refine g_then ?_ | refine g_nil ?_ | refine g_region ?_ | refine g_seq ?_ | refine g_opS rfl ?_ | refine g_open ?_ | refine g_pass rfl ?_ | refine g_store ?_ | refine g_box rfl fun _ _ => ?_ | refine g_alloc rfl fun _ _ => ?_ | refine g_allocS rfl fun _ _ => ?_ | refine g_storeAgg ?_ | refine g_inBlock ?_ | refine g_block ?_ | refine g_skip ?_ | refine g_condT ?_ | refine g_condF ?_ | refine g_add rfl (by omega) (by omega) ?_ | refine g_sub rfl (by omega) (by omega) ?_ | refine g_exit ?_ | refine g_thenExit ?_ | refine g_exitHere ?_ | refine g_exitOn rfl ?_ | refine g_ret ?_ | refine g_thenRet ?_ | refine g_blockRet ?_ | refine g_passS rfl ?_ | refine g_pass0 ?_ | refine g_passU rfl ?_ | refine g_passUS rfl ?_ | refine g_storeV ?_ | refine g_build1 rfl rfl fun _ _ => ?_ | refine g_buildN rfl rfl fun _ _ => ?_ | refine g_make rfl (by omega) (by omega) fun _ _ => ?_)
    refine g_cond (fun h2 => ?_) (fun h2 => ?_)
    · have hclt : c < n := by simpa using h2
      repeat (first | refine g_op rfl ?_ | refine g_then ?_ | refine g_nil ?_ | refine g_region ?_ | refine g_seq ?_ | refine g_opS rfl ?_ | refine g_open ?_ | refine g_pass rfl ?_ | refine g_store ?_ | refine g_box rfl fun _ _ => ?_ | refine g_alloc rfl fun _ _ => ?_ | refine g_allocS rfl fun _ _ => ?_ | refine g_storeAgg ?_ | refine g_inBlock ?_ | refine g_block ?_ | refine g_skip ?_ | refine g_condT ?_ | refine g_condF ?_ | refine g_add rfl (by omega) (by omega) ?_ | refine g_sub rfl (by omega) (by omega) ?_ | refine g_exit ?_ | refine g_thenExit ?_ | refine g_exitHere ?_ | refine g_exitOn rfl ?_ | refine g_ret ?_ | refine g_thenRet ?_ | refine g_blockRet ?_ | refine g_passS rfl ?_ | refine g_pass0 ?_ | refine g_passU rfl ?_ | refine g_passUS rfl ?_ | refine g_storeV ?_ | refine g_build1 rfl rfl fun _ _ => ?_ | refine g_buildN rfl rfl fun _ _ => ?_ | refine g_make rfl (by omega) (by omega) fun _ _ => ?_)
      refine g_callV rfl (fun w hw => refEnds_c _ _ _ bl _ b c w (hbs0.keep keeps_block hw.chg) (by omega) hok (by omega)) ?_
      generalize he2 : decide (CanEnd bl c b) = e2
      cases e2
      · have hs : Sure bl b c := ⟨hce, by simpa using he2⟩
        obtain ⟨r, hr⟩ : ∃ r, rs'[b]? = some r := ⟨_, List.getElem?_eq_getElem (by omega)⟩
        have hrb := tableTo_bd bl (by omega) b c b (by omega)
        rw [← hrows' b r hr] at hrb
        have hli : LtIs b n := ⟨hlt⟩
        have hxa : XAt (rs'.map valR) (b * 1) (.slice r.a r.l.length r.c) := ⟨by simp [hr, valR]⟩
        have hbl : b < rs'.length := by omega
        repeat (first | refine g_op rfl ?_ | refine g_then ?_ | refine g_nil ?_ | refine g_region ?_ | refine g_seq ?_ | refine g_opS rfl ?_ | refine g_open ?_ | refine g_pass rfl ?_ | refine g_store ?_ | refine g_box rfl fun _ _ => ?_ | refine g_alloc rfl fun _ _ => ?_ | refine g_allocS rfl fun _ _ => ?_ | refine g_storeAgg ?_ | refine g_inBlock ?_ | refine g_block ?_ | refine g_skip ?_ | refine g_condT ?_ | refine g_condF ?_ | refine g_add rfl (by omega) (by omega) ?_ | refine g_sub rfl (by omega) (by omega) ?_ | refine g_exit ?_ | refine g_thenExit ?_ | refine g_exitHere ?_ | refine g_exitOn rfl ?_ | refine g_ret ?_ | refine g_thenRet ?_ | refine g_blockRet ?_ | refine g_passS rfl ?_ | refine g_pass0 ?_ | refine g_passU rfl ?_ | refine g_passUS rfl ?_ | refine g_storeV ?_ | refine g_build1 rfl rfl fun _ _ => ?_ | refine g_buildN rfl rfl fun _ _ => ?_ | refine g_make rfl (by omega) (by omega) fun _ _ => ?_)
        rename_i bt _
        refine g_appendAt (b + 3) (xs := r.l.map (.int .i64)) (e := 3) (by simp [hr, entR]) rfl rfl (by omega) (by omega) fun a' c' => ?_
        refine g_eqH (H1 := Ent.vec (some ⟨bt, 0, none⟩) 1 1 3 1 [.int .i64 c] :: Ent.box p1 [nm, pa, re, .slice ba n bc] 35 :: Ent.vec (some ⟨bo, 0, none⟩) n n 27 1 (rs'.map valR) :: (rs'.set b ⟨a', c', r.l ++ [(c : Int)]⟩).map entR) (by simp [entR, List.map_set]) ?_
        have hxs : XSet (rs'.map valR) (b * 1) (.slice a' (r.l.length + 1) c') ((rs'.set b ⟨a', c', r.l ++ [(c : Int)]⟩).map valR) := ⟨by simp [valR, List.map_set], by simpa using hbl⟩
        repeat (first | refine g_op rfl ?_ | refine g_then ?_ | refine g_nil ?_ | refine g_region ?_ | refine g_seq ?_ | refine g_opS rfl ?_ | refine g_open ?_ | refine g_pass rfl ?_ | refine g_store ?_ | refine g_box rfl fun _ _ => ?_ | refine g_alloc rfl fun _ _ => ?_ | refine g_allocS rfl fun _ _ => ?_ | refine g_storeAgg ?_ | refine g_inBlock ?_ | refine g_block ?_ | refine g_skip ?_ | refine g_condT ?_ | refine g_condF ?_ | refine g_add rfl (by omega) (by omega) ?_ | refine g_sub rfl (by omega) (by omega) ?_ | refine g_exit ?_ | refine g_thenExit ?_ | refine g_exitHere ?_ | refine g_exitOn rfl ?_ | refine g_ret ?_ | refine g_thenRet ?_ | refine g_blockRet ?_ | refine g_passS rfl ?_ | refine g_pass0 ?_ | refine g_passU rfl ?_ | refine g_passUS rfl ?_ | refine g_storeV ?_ | refine g_build1 rfl rfl fun _ _ => ?_ | refine g_buildN rfl rfl fun _ _ => ?_ | refine g_make rfl (by omega) (by omega) fun _ _ => ?_)
        refine g_next (c + 1, rs'.set b ⟨a', c', r.l ++ [(c : Int)]⟩) ⟨hclt, by simpa using hrl', fun i q hq => ?_⟩ (by simp only; omega) (by repeat (first | exact trivial | refine ⟨rfl, ?_⟩)) (List.Sublist.cons _ (List.Sublist.refl _))
        simp only
        rw [tableTo_succ]
        simp only [List.getElem?_set] at hq
        by_cases hib : b = i
        · subst hib
          simp only [if_true, hbl, Option.some.injEq] at hq
          subst hq
          simp only [if_true, if_pos hs]
          rw [hrows' b r hr]
        · rw [if_neg hib] at hq
          rw [if_neg (Ne.symm hib)]
          exact hrows' i q hq
      · have hs : ¬ Sure bl b c := fun h => h.2 (by simpa using he2)
        repeat (first | refine g_op rfl ?_ | refine g_then ?_ | refine g_nil ?_ | refine g_region ?_ | refine g_seq ?_ | refine g_opS rfl ?_ | refine g_open ?_ | refine g_pass rfl ?_ | refine g_store ?_ | refine g_box rfl fun _ _ => ?_ | refine g_alloc rfl fun _ _ => ?_ | refine g_allocS rfl fun _ _ => ?_ | refine g_storeAgg ?_ | refine g_inBlock ?_ | refine g_block ?_ | refine g_skip ?_ | refine g_condT ?_ | refine g_condF ?_ | refine g_add rfl (by omega) (by omega) ?_ | refine g_sub rfl (by omega) (by omega) ?_ | refine g_exit ?_ | refine g_thenExit ?_ | refine g_exitHere ?_ | refine g_exitOn rfl ?_ | refine g_ret ?_ | refine g_thenRet ?_ | refine g_blockRet ?_ | refine g_passS rfl ?_ | refine g_pass0 ?_ | refine g_passU rfl ?_ | refine g_passUS rfl ?_ | refine g_storeV ?_ | refine g_build1 rfl rfl fun _ _ => ?_ | refine g_buildN rfl rfl fun _ _ => ?_ | refine g_make rfl (by omega) (by omega) fun _ _ => ?_)
        refine g_next (c + 1, rs') ⟨hclt, hrl', fun i q hq => ?_⟩ (by simp only; omega) (by repeat (first | exact trivial | refine ⟨rfl, ?_⟩)) (List.Sublist.refl _)
        simp only
        rw [tableTo_succ, if_neg hs, List.append_nil, hrows' i q hq]
        by_cases hib : i = b
        · subst hib; simp
        · simp [hib]
    · have hge : c = n := by have := h2; simp at this; omega
      repeat (first | refine g_op rfl ?_ | refine g_then ?_ | refine g_nil ?_ | refine g_region ?_ | refine g_seq ?_ | refine g_opS rfl ?_ | refine g_open ?_ | refine g_pass rfl ?_ | refine g_store ?_ | refine g_box rfl fun _ _ => ?_ | refine g_alloc rfl fun _ _ => ?_ | refine g_allocS rfl fun _ _ => ?_ | refine g_storeAgg ?_ | refine g_inBlock ?_ | refine g_block ?_ | refine g_skip ?_ | refine g_condT ?_ | refine g_condF ?_ | refine g_add rfl (by omega) (by omega) ?_ | refine g_sub rfl (by omega) (by omega) ?_ | refine g_exit ?_ | refine g_thenExit ?_ | refine g_exitHere ?_ | refine g_exitOn rfl ?_ | refine g_ret ?_ | refine g_thenRet ?_ | refine g_blockRet ?_ | refine g_passS rfl ?_ | refine g_pass0 ?_ | refine g_passU rfl ?_ | refine g_passUS rfl ?_ | refine g_storeV ?_ | refine g_build1 rfl rfl fun _ _ => ?_ | refine g_buildN rfl rfl fun _ _ => ?_ | refine g_make rfl (by omega) (by omega) fun _ _ => ?_)
      refine g_next (b + 1, rs') ⟨hlt, hrl', fun i q hq => ?_⟩ (by simp only; omega) (by repeat (first | exact trivial | refine ⟨rfl, ?_⟩)) (List.Sublist.refl _)
      rw [tableTo_next, hrows' i q hq, hge, hn]
  · have hge : b = n := by have := h1; simp at this; omega
    repeat (first | refine g_op rfl ?_ | refine g_then ?_ | refine g_nil ?_ | refine g_region ?_ | refine g_seq ?_ | refine g_opS rfl ?_ | refine g_open ?_ | refine g_pass rfl ?_ | refine g_store ?_ | refine g_box rfl fun _ _ => ?_ | refine g_alloc rfl fun _ _ => ?_ | refine g_allocS rfl fun _ _ => ?_ | refine g_storeAgg ?_ | refine g_inBlock ?_ | refine g_block ?_ | refine g_skip ?_ | refine g_condT ?_ | refine g_condF ?_ | refine g_add rfl (by omega) (by omega) ?_ | refine g_sub rfl (by omega) (by omega) ?_ | refine g_exit ?_ | refine g_thenExit ?_ | refine g_exitHere ?_ | refine g_exitOn rfl ?_ | refine g_ret ?_ | refine g_thenRet ?_ | refine g_blockRet ?_ | refine g_passS rfl ?_ | refine g_pass0 ?_ | refine g_passU rfl ?_ | refine g_passUS rfl ?_ | refine g_storeV ?_ | refine g_build1 rfl rfl fun _ _ => ?_ | refine g_buildN rfl rfl fun _ _ => ?_ | refine g_make rfl (by omega) (by omega) fun _ _ => ?_)
    refine g_ret1 rfl fun w hw => ⟨(bo, _, rs), rfl, (hw.sub (List.Sublist.cons _ (List.Sublist.refl _))).tab fun r hr => ?_, ?_⟩
    · obtain ⟨i, hi⟩ := List.getElem?_of_mem hr
      have := tableTo_bd bl (by omega) b 0 i (by omega)
      rw [← hrows i r hi] at this
      exact ⟨by omega, this.2⟩
    · show rs.map (·.l) = tableL bl
      apply List.ext_getElem?
      intro i
      rw [List.getElem?_map, tableL, List.getElem?_map]
      by_cases hin : i < n
      · rw [List.getElem?_eq_getElem (by omega : i < rs.length), List.getElem?_range (by omega)]
        simp only [Option.map_some, Option.some.injEq]
        rw [hrows i _ (List.getElem?_eq_getElem (by omega)), tableTo, if_pos (by omega)]
      · rw [List.getElem?_eq_none (by omega), List.getElem?_eq_none (by rw [List.length_range]; omega)]
        rfl
end Go.Proofs.YtebajiafdkokjaaDoor
