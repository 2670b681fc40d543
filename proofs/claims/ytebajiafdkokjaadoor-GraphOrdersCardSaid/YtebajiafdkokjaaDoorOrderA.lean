/- slices.Reverse, graph.OrderOf, graph.Order; two more rules. -/
import Derived.Test.YtebajiafdkokjaaDoorReachG
import Derived.Test.YtebajiafdkokjaaDoorHangLaw
namespace Go.Proofs.YtebajiafdkokjaaDoor
open Go Go.RowKit

section
variable {P : Program} {ro : Option Nat} {N : Nat} {ds : List Deferred} {S : Nat → Prop} {w0 : World} {L L' : List (Nat × Value)} {H H' : List Ent} {ops : Array Oper} {rest : List Oper} {Q : Exit → Act → World → Prop} {x y : Operand}
theorem g_endTC {fn : Func} {R : Value → World → Prop} {s t T n b j bt : Nat} {u : Value} {cs : List Value} (hr : fn.results = #[.tmp s, .cell t T]) [hu : SlotIs L s u] [hv : SlotIs L t (.pointer (some ⟨b, 0, none⟩))] [h : AggSize P T n] [hb : BoxIn H b j cs bt] [hl : LenIs cs n] (hR : ∀ w, Wd S w0 H w → R (.tuple #[u, .agg cs.toArray]) w) : G N [] S w0 L H (bodyPost P fn (fun e w' => ∃ v, e = .returned v ∧ R v w') .normal) := fun a w hS => g_retTC (P := P) (T := T) hr hR a w hS
theorem g_end1 {fn : Func} {R : Value → World → Prop} {t : Nat} {v : Value} (hr : fn.results = #[.tmp t]) [hv : SlotIs L t v] (hR : ∀ w, Wd S w0 H w → R v w) : G N [] S w0 L H (bodyPost P fn (fun e w' => ∃ v, e = .returned v ∧ R v w') .normal) := fun a w hS => g_ret1 (P := P) hr hR a w hS
/-- '[]T{}' -/
theorem g_build0 {d ty T e s by' : Nat} {zs : List Value} {pos : String} {aft : Array Go.Edge} [h : ElemInfo P T e s by' zs] (hd : okPut d N L = true)
    (k : ∀ b, w0.heap.size ≤ b → G N ds S w0 ((d, .slice (some ⟨b, 0, none⟩) 0 0) :: L) (Ent.vec (some ⟨b, 0, none⟩) 0 0 e s [] :: H) (wpListIn (FW ro) 0 P ops Q rest)) : G N ds S w0 L H (wpListIn (FW ro) 0 P ops Q (⟨some d, .buildSlice T 0 #[], ty, pos, aft, none⟩ :: rest)) := by
  intro a w hS
  obtain ⟨i, zz, hi, _, _, _, _⟩ := h.get
  refine step_val (v := .slice (some ⟨w.heap.size, 0, none⟩) 0 0) (w' := w.alloc (.cells #[] e)) rfl (fun _ h => by cases h) ?_ ?_
  · have hr : (Instr.buildSlice T 0 #[]).run P w = .ok (.slice (some ⟨w.heap.size, 0, none⟩) 0 0) (w.alloc (.cells #[] e)) := by
      simp [Instr.buildSlice, run_underlying h.und, sizeOf, typeInfo, hi, Instr.fill, newRow]
      congr 2
      exact Array.eq_empty_of_size_eq_zero (by simp)
    simp [execOp, hr]
  · exact k _ hS.wd.size _ _ ⟨hS.fr.putOk hd _, hS.wd.vecNew e s 0 [] (by simp) (by simp [maxLen])⟩
theorem set_self {α : Type} {l : List α} {k : Nat} {e : α} (h : l[k]? = some e) : l.set k e = l := by
  apply List.ext_getElem?
  intro i
  rw [List.getElem?_set]
  split
  · rename_i hi; subst hi
    rw [if_pos (List.getElem?_eq_some_iff.1 h).1, h]
  · rfl
/-- 'append(x, y...)' of numbers that can be read -/
theorem g_appendI {d ty T e by' : Nat} {z : Value} {pos : String} {aft : Array Go.Edge} {ad a2 : Option Addr} {n c m c2 k : Nat} {xs : List Value} [h : ElemInfo P T e 1 by' [z]] [hx : Ev L x (.slice ad n c)] [hy : Ev L y (.slice a2 m c2)]
    [hv : VecIn H ad n c k e 1 xs] (hd : okPut d N L = true) (l : List Int) (hsl : ∀ w, Wd S w0 H w → SlAt w (.slice a2 m c2) 1 l IntV) (hbytes : (n + m) * by' ≤ 140737488355328) (h63 : n + m ≤ 140737488355328)
    {F : Ent → List Ent} [hF : SetFn H k F] (kk : ∀ a' c', G N ds S w0 ((d, .slice a' (n + m) c') :: L) (F (Ent.vec a' (n + m) c' e 1 (xs ++ l.map (.int .i64)))) (wpListIn (FW ro) 0 P ops Q rest)) : G N ds S w0 L H (wpListIn (FW ro) 0 P ops Q (⟨some d, .call { callee := .builtin .append, args := #[x, y], argTypes := #[T, T] }, ty, pos, aft, none⟩ :: rest)) := by
  intro a w hS
  obtain ⟨a2', m', c2', b, o, hval, hm, hmc, _, _, ha, hel⟩ := hsl w hS.wd
  simp only [Value.slice.injEq] at hval
  obtain ⟨rfl, rfl, rfl⟩ := hval
  by_cases h0 : m = 0
  · subst h0
    have hl : l = [] := List.eq_nil_of_length_eq_zero hm.symm
    subst hl
    obtain ⟨i, zz, hi, _, _, _, _⟩ := h.get
    have hnc : n ≤ c := by
      obtain ⟨_, h2⟩ := hS.wd.get hv.at'
      rcases h2 with ⟨_, h2, h3⟩ | ⟨_, _, _, _, h3, _⟩ <;> omega
    have hr : (Builtin.append_ #[T, T] ty #[.slice ad n c, .slice a2 0 c2]).run P w = .ok (.slice ad n c) w := by
      cases ad <;> cases a2 <;> simp [Builtin.append_, run_underlying h.und, sizeOf, typeInfo, hi, Builtin.lenOf, Builtin.firstCells, hnc, storeCells, loadCells, loadCellsFrom]
    refine step_val (v := .slice ad n c) (w' := w) rfl (fun _ h => by cases h) ?_ ?_
    · simp [execOp, resolve, invoke, builtin, hx.eq _ _ _ hS.fr, hy.eq _ _ _ hS.fr, hr]
    · have := kk ad c
      simp only [List.map_nil, List.append_nil, Nat.add_zero] at this
      rw [← hF.eq, set_self hv.at'] at this
      exact this _ _ ⟨hS.fr.putOk hd _, hS.wd⟩
  · have hne : l ≠ [] := by rintro rfl; simp at hm; exact h0 hm
    have ha := ha hne
    subst ha
    obtain ⟨a', c', w', hr, hw'⟩ := hS.wd.append (P := P) (ty := ty) (c2 := c2) (a2 := ⟨b, o, none⟩) (m := m) (news := l.map (.int .i64)) h (by omega) hv.at' (by omega) (by simp [hm]) (fun j u hj => by
      rw [List.getElem?_map] at hj
      obtain ⟨q, hq, rfl⟩ := Option.map_eq_some_iff.1 hj
      obtain ⟨cs, hc, rfl, _⟩ := hel j q hq
      have := hc 0 _ rfl
      rw [Addr.add_lit]
      simpa using this) (fun u hu => by obtain ⟨q, _, rfl⟩ := List.mem_map.1 hu; rfl) hbytes h63 rfl
    refine step_val (v := .slice a' (n + m) c') (w' := w') rfl (fun _ h => by cases h) ?_ ?_
    · simp [execOp, resolve, invoke, builtin, hx.eq _ _ _ hS.fr, hy.eq _ _ _ hS.fr, hr]
    · rw [hF.eq] at hw'
      exact kk a' c' _ _ ⟨hS.fr.putOk hd _, hw'⟩
end
attribute [local irreducible] wpListIn Code.wpIn Exit.then Exit.inBlock bodyPost wpQuiet wpAnyIn
set_option maxHeartbeats 4000000

instance (x : Nat) : OneV (intN x) := ⟨rfl⟩
theorem rev_swap {l l' : List Nat} {i j : Nat} {x y : Nat} (hl : l'.length = l.length) (hij : i < j) (hj : i + j + 1 = l.length) (h : ∀ k, k < l.length → l'[k]? = if k < i ∨ j < k then l[l.length - 1 - k]? else l[k]?) (hx : l'[i]? = some x) (hy : l'[j]? = some y) :
    ∀ k, k < l.length → ((l'.set i y).set j x)[k]? = if k < i + 1 ∨ j - 1 < k then l[l.length - 1 - k]? else l[k]? := by
  intro k hk
  have hi := h i (by omega)
  have hjj := h j (by omega)
  rw [if_neg (by omega), hx] at hi
  rw [if_neg (by omega), hy] at hjj
  rw [List.getElem?_set, List.getElem?_set]
  by_cases e1 : j = k
  · subst e1
    rw [if_pos rfl, if_pos (by simp; omega), if_pos (by omega), show l.length - 1 - j = i by omega, hi]
  · rw [if_neg e1]
    by_cases e2 : i = k
    · subst e2
      rw [if_pos rfl, if_pos (by omega), if_pos (by omega), show l.length - 1 - i = j by omega, hjj]
    · rw [if_neg e2, h k hk]
      by_cases e3 : k < i ∨ j < k
      · rw [if_pos e3, if_pos (by omega)]
      · rw [if_neg e3, if_neg (by omega)]
theorem rev_done {l l' : List Nat} {i : Nat} (hl : l'.length = l.length) (hi : l.length ≤ 2 * i + 1) (h : ∀ k, k < l.length → l'[k]? = if k < i ∨ (l.length : Int) - 1 - i < k then l[l.length - 1 - k]? else l[k]?) : l' = l.reverse := by
  apply List.ext_getElem?
  intro k
  by_cases hk : k < l.length
  · rw [h k hk, List.getElem?_reverse hk]
    by_cases e : k < i ∨ (l.length : Int) - 1 - i < k
    · rw [if_pos e]
    · rw [if_neg e, show l.length - 1 - k = k by omega]
  · rw [List.getElem?_eq_none (by omega), List.getElem?_eq_none (by rw [List.length_reverse]; omega)]
theorem reverse_c (a : Option Addr) (c : Nat) (l : List Nat) (hlen : l.length ≤ 100000) (w : World) (hw : Wd (fps [Ent.vec a l.length c 3 1 (l.map intN)]) w [Ent.vec a l.length c 3 1 (l.map intN)] w) :
    Ret Tryd.prog 84 [.slice a l.length c] w fun u w' => ∃ _ : Unit, u = .tuple #[] ∧ Wd (fps [Ent.vec a l.length c 3 1 (l.map intN)]) w [Ent.vec a l.length c 3 1 (l.reverse.map intN)] w' ∧ True := by
  refine ret_enter Tryd.func84 rfl Tryd.ntmps84 rfl hw ?_
  generalize fps [Ent.vec a l.length c 3 1 (l.map intN)] = SS
  repeat (first | refine g_op rfl ?_ | refine g_then ?_ | refine g_nil ?_ | refine g_region ?_ | refine g_seq ?_ | refine g_opS rfl ?_ | refine g_open ?_ | refine g_pass rfl ?_ | refine g_store ?_ | refine g_box rfl fun _ _ => ?_ | refine g_alloc rfl fun _ _ => ?_ | refine g_allocS rfl fun _ _ => ?_ | refine g_storeAgg ?_ | refine g_inBlock ?_ | refine g_block ?_ | refine g_skip ?_ | refine g_condT ?_ | refine g_condF ?_ | refine g_add rfl (by omega) (by omega) ?_ | refine g_sub rfl (by omega) (by omega) ?_ | refine g_exit ?_ | refine g_thenExit ?_ | refine g_exitHere ?_ | refine g_exitOn rfl ?_ | refine g_ret ?_ | refine g_thenRet ?_ | refine g_blockRet ?_ | refine g_passS rfl ?_ | refine g_pass0 ?_ | refine g_passU rfl ?_ | refine g_passUS rfl ?_ | refine g_storeV ?_ | refine g_build1 rfl rfl fun _ _ => ?_ | refine g_buildN rfl rfl fun _ _ => ?_ | refine g_make rfl (by omega) (by omega) fun _ _ => ?_)
  refine g_loop (fun (x : Nat × Int × Option Addr × List Nat) => x.2.1 = (l.length : Int) - 1 - x.1 ∧ x.1 ≤ l.length ∧ x.2.2.2.length = l.length ∧ x.2.2.1 = a ∧ ∀ k, k < l.length → x.2.2.2[k]? = if k < x.1 ∨ (l.length : Int) - 1 - x.1 < k then l[l.length - 1 - k]? else l[k]?) (fun x => [(2, .int .i64 x.1), (3, .int .i64 x.2.1), (0, .slice x.2.2.1 l.length c)])
    (fun x => [Ent.vec x.2.2.1 l.length c 3 1 (x.2.2.2.map intN)]) (fun x => l.length - x.1) (0, (l.length : Int) - 1, a, l) ⟨by simp, Nat.zero_le _, rfl, rfl, fun k hk => by rw [if_neg (by simp only; omega)]⟩ (g_done (by repeat (first | exact trivial | refine ⟨rfl, ?_⟩)) (List.Sublist.refl _)) fun x ⟨hj, hi, hl, ha, hall⟩ => ?_
  obtain ⟨i, j, a', l'⟩ := x
  simp only at hj hi hl ha hall ⊢
  repeat (first | refine g_op rfl ?_ | refine g_then ?_ | refine g_nil ?_ | refine g_region ?_ | refine g_seq ?_ | refine g_opS rfl ?_ | refine g_open ?_ | refine g_pass rfl ?_ | refine g_store ?_ | refine g_box rfl fun _ _ => ?_ | refine g_alloc rfl fun _ _ => ?_ | refine g_allocS rfl fun _ _ => ?_ | refine g_storeAgg ?_ | refine g_inBlock ?_ | refine g_block ?_ | refine g_skip ?_ | refine g_condT ?_ | refine g_condF ?_ | refine g_add rfl (by omega) (by omega) ?_ | refine g_sub rfl (by omega) (by omega) ?_ | refine g_exit ?_ | refine g_thenExit ?_ | refine g_exitHere ?_ | refine g_exitOn rfl ?_ | refine g_ret ?_ | refine g_thenRet ?_ | refine g_blockRet ?_ | refine g_passS rfl ?_ | refine g_pass0 ?_ | refine g_passU rfl ?_ | refine g_passUS rfl ?_ | refine g_storeV ?_ | refine g_build1 rfl rfl fun _ _ => ?_ | refine g_buildN rfl rfl fun _ _ => ?_ | refine g_make rfl (by omega) (by omega) fun _ _ => ?_)
  refine g_cond (fun h1 => ?_) (fun h1 => ?_)
  · have hlt : (i : Int) < j := by simpa using h1
    obtain ⟨jn, rfl⟩ : ∃ jn : Nat, j = jn := ⟨j.toNat, by omega⟩
    refine g_vec 0 rfl (by omega) fun rb ro hra => ?_
    obtain ⟨x, hx⟩ : ∃ x, l'[i]? = some x := ⟨_, List.getElem?_eq_getElem (by omega)⟩
    obtain ⟨y, hy⟩ : ∃ y, l'[jn]? = some y := ⟨_, List.getElem?_eq_getElem (by omega)⟩
    rw [hra]
    have hli : LtIs i l.length := ⟨by omega⟩
    have hlj : LtIs jn l.length := ⟨by omega⟩
    have he1 : ElAt l' i x := ⟨hx⟩
    have he2 : ElAt l' jn y := ⟨hy⟩
    have he3 : ElAt (l'.set i y) jn y := ⟨by rw [List.getElem?_set, if_neg (by omega), hy]⟩
    have he4 : ElAt (l'.set jn x) i x := ⟨by rw [List.getElem?_set, if_neg (by omega), hx]⟩
    repeat (first | refine g_op rfl ?_ | refine g_then ?_ | refine g_nil ?_ | refine g_region ?_ | refine g_seq ?_ | refine g_opS rfl ?_ | refine g_open ?_ | refine g_pass rfl ?_ | refine g_store ?_ | refine g_box rfl fun _ _ => ?_ | refine g_alloc rfl fun _ _ => ?_ | refine g_allocS rfl fun _ _ => ?_ | refine g_storeAgg ?_ | refine g_inBlock ?_ | refine g_block ?_ | refine g_skip ?_ | refine g_condT ?_ | refine g_condF ?_ | refine g_add rfl (by omega) (by omega) ?_ | refine g_sub rfl (by omega) (by omega) ?_ | refine g_exit ?_ | refine g_thenExit ?_ | refine g_exitHere ?_ | refine g_exitOn rfl ?_ | refine g_ret ?_ | refine g_thenRet ?_ | refine g_blockRet ?_ | refine g_passS rfl ?_ | refine g_pass0 ?_ | refine g_passU rfl ?_ | refine g_passUS rfl ?_ | refine g_storeV ?_ | refine g_build1 rfl rfl fun _ _ => ?_ | refine g_buildN rfl rfl fun _ _ => ?_ | refine g_make rfl (by omega) (by omega) fun _ _ => ?_)
    refine g_drawW [(2, .int .i64 i), (3, .int .i64 jn), (0, .slice (some ⟨rb, ro, none⟩) l.length c)] [Ent.vec (some ⟨rb, ro, none⟩) l.length c 3 1 (((l'.set i y).set jn x).map intN)] mixed ?_ ?_
    · repeat' (first | refine g_take 0 rfl (by decide +kernel) ?_ | refine g_takeG 0 rfl (by decide +kernel) ?_ | refine g_takeP 0 rfl (by decide +kernel) ?_ | refine g_take 1 rfl (by decide +kernel) ?_ | refine g_takeG 1 rfl (by decide +kernel) ?_ | refine g_takeP 1 rfl (by decide +kernel) ?_ | refine g_take 2 rfl (by decide +kernel) ?_ | refine g_takeG 2 rfl (by decide +kernel) ?_ | refine g_takeP 2 rfl (by decide +kernel) ?_ | refine g_take 3 rfl (by decide +kernel) ?_ | refine g_takeG 3 rfl (by decide +kernel) ?_ | refine g_takeP 3 rfl (by decide +kernel) ?_ | refine g_take 4 rfl (by decide +kernel) ?_ | refine g_takeG 4 rfl (by decide +kernel) ?_ | refine g_takeP 4 rfl (by decide +kernel) ?_ | refine g_take 5 rfl (by decide +kernel) ?_ | refine g_takeG 5 rfl (by decide +kernel) ?_ | refine g_takeP 5 rfl (by decide +kernel) ?_ | refine g_take 6 rfl (by decide +kernel) ?_ | refine g_takeG 6 rfl (by decide +kernel) ?_ | refine g_takeP 6 rfl (by decide +kernel) ?_ | refine g_take 8 rfl (by decide +kernel) ?_ | refine g_takeG 8 rfl (by decide +kernel) ?_ | refine g_takeP 8 rfl (by decide +kernel) ?_ | refine g_take 9 rfl (by decide +kernel) ?_ | refine g_takeG 9 rfl (by decide +kernel) ?_ | refine g_takeP 9 rfl (by decide +kernel) ?_ | refine g_take 10 rfl (by decide +kernel) ?_ | refine g_takeG 10 rfl (by decide +kernel) ?_ | refine g_takeP 10 rfl (by decide +kernel) ?_ | refine g_take 12 rfl (by decide +kernel) ?_ | refine g_takeG 12 rfl (by decide +kernel) ?_ | refine g_takeP 12 rfl (by decide +kernel) ?_ | refine g_take 14 rfl (by decide +kernel) ?_ | refine g_takeG 14 rfl (by decide +kernel) ?_ | refine g_takeP 14 rfl (by decide +kernel) ?_ | refine g_any0 (by decide +kernel) ?_ | refine g_any (by decide +kernel) ?_ | refine any_nil | refine any_skip (by decide +kernel) ?_ | refine any_cons ?_ ?_ | refine g_op rfl ?_ | refine g_then ?_ | refine g_nil ?_ | refine g_region ?_ | refine g_seq ?_ | refine g_opS rfl ?_ | refine g_open ?_ | refine g_pass rfl ?_ | refine g_store ?_ | refine g_box rfl fun _ _ => ?_ | refine g_alloc rfl fun _ _ => ?_ | refine g_allocS rfl fun _ _ => ?_ | refine g_storeAgg ?_ | refine g_inBlock ?_ | refine g_skip ?_ | refine g_condT ?_ | refine g_condF ?_ | refine g_add rfl (by omega) (by omega) ?_ | refine g_sub rfl (by omega) (by omega) ?_ | refine g_exit ?_ | refine g_thenExit ?_ | refine g_exitHere ?_ | refine g_exitOn rfl ?_ | refine g_ret ?_ | refine g_thenRet ?_ | refine g_passS rfl ?_ | refine g_pass0 ?_ | refine g_passU rfl ?_ | refine g_passUS rfl ?_ | refine g_storeV ?_ | refine g_build1 rfl rfl fun _ _ => ?_ | refine g_buildN rfl rfl fun _ _ => ?_ | refine g_make rfl (by omega) (by omega) fun _ _ => ?_)
      all_goals exact g_done (by repeat (first | exact trivial | refine ⟨rfl, ?_⟩)) (List.Sublist.refl _)
    · repeat (first | refine g_op rfl ?_ | refine g_then ?_ | refine g_nil ?_ | refine g_region ?_ | refine g_seq ?_ | refine g_opS rfl ?_ | refine g_open ?_ | refine g_pass rfl ?_ | refine g_store ?_ | refine g_box rfl fun _ _ => ?_ | refine g_alloc rfl fun _ _ => ?_ | refine g_allocS rfl fun _ _ => ?_ | refine g_storeAgg ?_ | refine g_inBlock ?_ | refine g_block ?_ | refine g_skip ?_ | refine g_condT ?_ | refine g_condF ?_ | refine g_add rfl (by omega) (by omega) ?_ | refine g_sub rfl (by omega) (by omega) ?_ | refine g_exit ?_ | refine g_thenExit ?_ | refine g_exitHere ?_ | refine g_exitOn rfl ?_ | refine g_ret ?_ | refine g_thenRet ?_ | refine g_blockRet ?_ | refine g_passS rfl ?_ | refine g_pass0 ?_ | refine g_passU rfl ?_ | refine g_passUS rfl ?_ | refine g_storeV ?_ | refine g_build1 rfl rfl fun _ _ => ?_ | refine g_buildN rfl rfl fun _ _ => ?_ | refine g_make rfl (by omega) (by omega) fun _ _ => ?_)
      refine g_next (i + 1, (jn : Int) - 1, some ⟨rb, ro, none⟩, (l'.set i y).set jn x) ⟨by simp only; omega, by simp only; omega, by simpa using hl, by rw [← hra]; exact ha, fun k hk => ?_⟩ (by simp only; omega) (by repeat (first | exact trivial | refine ⟨rfl, ?_⟩)) (List.Sublist.refl _)
      have := rev_swap hl (by omega) (by omega) (fun k hk => by
        rw [hall k hk]
        by_cases e : k < i ∨ jn < k
        · rw [if_pos e, if_pos (by omega)]
        · rw [if_neg e, if_neg (by omega)]) hx hy k hk
      rw [this]
      by_cases e : k < i + 1 ∨ jn - 1 < k
      · rw [if_pos e, if_pos (by simp only; omega)]
      · rw [if_neg e, if_neg (by simp only; omega)]
  · have hge : l' = l.reverse := rev_done hl (by simp at h1; omega) hall
    repeat (first | refine g_op rfl ?_ | refine g_then ?_ | refine g_nil ?_ | refine g_region ?_ | refine g_seq ?_ | refine g_opS rfl ?_ | refine g_open ?_ | refine g_pass rfl ?_ | refine g_store ?_ | refine g_box rfl fun _ _ => ?_ | refine g_alloc rfl fun _ _ => ?_ | refine g_allocS rfl fun _ _ => ?_ | refine g_storeAgg ?_ | refine g_inBlock ?_ | refine g_block ?_ | refine g_skip ?_ | refine g_condT ?_ | refine g_condF ?_ | refine g_add rfl (by omega) (by omega) ?_ | refine g_sub rfl (by omega) (by omega) ?_ | refine g_exit ?_ | refine g_thenExit ?_ | refine g_exitHere ?_ | refine g_exitOn rfl ?_ | refine g_ret ?_ | refine g_thenRet ?_ | refine g_blockRet ?_ | refine g_passS rfl ?_ | refine g_pass0 ?_ | refine g_passU rfl ?_ | refine g_passUS rfl ?_ | refine g_storeV ?_ | refine g_build1 rfl rfl fun _ _ => ?_ | refine g_buildN rfl rfl fun _ _ => ?_ | refine g_make rfl (by omega) (by omega) fun _ _ => ?_)
    refine g_end0 rfl fun w' hw' => ⟨(), rfl, ?_, trivial⟩
    rw [← hge, ← ha]
    exact hw'
end Go.Proofs.YtebajiafdkokjaaDoor
