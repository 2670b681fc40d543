/- Texts joined: ReachG SureC HangA HangB HangC HangLaw OrderA PostB OrderB. -/
import Derived.Test.YtbmnkjaelfjlhaaDoorGD
/- graph.Reach; the law GraphReaches, walked. -/
namespace Go.Proofs.YtbmnkjaelfjlhaaDoor
open Go Go.RowKit
attribute [local irreducible] wpListIn Code.wpIn Exit.then Exit.inBlock bodyPost wpQuiet wpAnyIn
set_option maxHeartbeats 4000000

theorem check_pos {u : LUnit} (h : (checkL u).1 = 0) {k : Nat} {X : LFunc} (hX : u.funcs[k]? = some X) : 0 < X.blocks.length := by
  unfold checkL at h
  split at h
  · cases h
  · split at h
    · rename_i h2; exact absurd h h2
    · split at h
      · rename_i h2; exact absurd h h2
      · rename_i h3
        have hz := firstI_zero (by simpa using h3)
        have := hz k (List.getElem?_eq_some_iff.1 hX).1
        simp only [headAt, at0, hX, headErr] at this
        refine Classical.byContradiction fun hn => ?_
        have e : X.blocks.length = 0 := by omega
        rw [e] at this
        simp [within] at this
        split at this
        · omega
        · split at this
          · omega
          · split at this <;> omega
end Go.Proofs.YtbmnkjaelfjlhaaDoor


/- dom.sure: for each block the table of the blocks that every way to an end meets. -/
namespace Go.Proofs.YtbmnkjaelfjlhaaDoor
open Go Go.RowKit
attribute [local irreducible] wpListIn Code.wpIn Exit.then Exit.inBlock bodyPost wpQuiet wpAnyIn
set_option maxHeartbeats 4000000

end Go.Proofs.YtbmnkjaelfjlhaaDoor


/- dom.Hang$1, turnerysame.Ints and Rows: what each returns. -/
namespace Go.Proofs.YtbmnkjaelfjlhaaDoor
open Go Go.RowKit
attribute [local irreducible] wpListIn Code.wpIn Exit.then Exit.inBlock bodyPost wpQuiet wpAnyIn
set_option maxHeartbeats 2000000

theorem ints_c (a b : Value) (l m : List Int) (w0 : World) (ha : SlAt w0 a 1 l IntV) (hb : SlAt w0 b 1 m IntV) : RetV Tryd.prog 52 [a, b] w0 (.bool (decide (l = m))) := by
  obtain ⟨aa, an, ac, ab, ao, rfl, han, hanc, hanb, hac, haa, hael⟩ := ha
  obtain ⟨ba, bn, bc, bb, bo, rfl, hbn, hbnc, hbnb, hbc, hba, hbel⟩ := hb
  refine ret_enter Tryd.func52 rfl Tryd.ntmps52 rfl (Wd.nil NoS w0) ?_
  repeat (first | refine g_op rfl ?_ | refine g_then ?_ | refine g_nil ?_ | refine g_region ?_ | refine g_seq ?_)
  refine g_cond (fun h1 => ?_) (fun h1 => ?_)
  · repeat (first | refine g_then ?_ | refine g_nil ?_ | refine g_region ?_ | refine g_seq ?_ | refine g_opS rfl ?_ | refine g_ret ?_ | refine g_thenRet ?_)
    refine g_retV rfl ?_
    rw [decide_eq_false]
    rintro rfl
    simp at h1; omega
  have hlen : an = bn := by simp at h1; omega
  repeat (first | refine g_op rfl ?_ | refine g_then ?_ | refine g_nil ?_ | refine g_region ?_ | refine g_seq ?_ | refine g_block ?_ | refine g_skip ?_)
  refine g_loop (fun (i : Nat) => i ≤ an ∧ ∀ j, j < i → l[j]? = m[j]?) (fun i => [(5, .int .i64 i), (0, .slice aa an ac), (1, .slice ba bn bc)]) (fun _ => []) (fun i => an - i) 0 ⟨Nat.zero_le _, by simp⟩ (g_done (by repeat (first | exact trivial | refine ⟨rfl, ?_⟩)) (by simp)) fun i ⟨hi, hall⟩ => ?_
  repeat (first | refine g_op rfl ?_ | refine g_then ?_ | refine g_nil ?_ | refine g_region ?_ | refine g_seq ?_)
  refine g_cond (fun h2 => ?_) (fun h2 => ?_)
  · have hlt : i < an := by simpa using h2
    obtain ⟨x, hx⟩ := get_lt han hlt
    obtain ⟨y, hy⟩ := get_lt hbn (show i < bn by omega)
    have had : AddrIs aa ab ao := ⟨haa (ne_of_get hx)⟩
    have hbd : AddrIs ba bb bo := ⟨hba (ne_of_get hy)⟩
    have hli : LtIs i an := ⟨hlt⟩
    have hlj : LtIs i bn := ⟨by omega⟩
    obtain ⟨cs, hcs, rfl, _⟩ := hael i x hx
    obtain ⟨cs2, hcs2, rfl, _⟩ := hbel i y hy
    have hci : CellsIs w0 ab (ao + i * 1) _ := ⟨hcs⟩
    have hcj : CellsIs w0 bb (bo + i * 1) _ := ⟨hcs2⟩
    repeat (first | refine g_then ?_ | refine g_seq ?_ | refine g_block ?_ | refine g_skip ?_)
    refine g_draw mixed (by kernel_rfl) ?_
    repeat (first | refine q_op rfl ?_ | refine q_nil ?_)
    repeat (refine g_then ?_)
    refine g_cond (fun h3 => ?_) (fun h3 => ?_)
    · repeat (first | refine g_op rfl ?_ | refine g_then ?_ | refine g_nil ?_ | refine g_region ?_ | refine g_seq ?_ | refine g_ret ?_ | refine g_thenRet ?_ | refine g_blockRet ?_)
      refine g_retV rfl ?_
      rw [decide_eq_false]
      rintro rfl
      rw [hx] at hy
      simp only [Option.some.injEq] at hy
      simp [hy] at h3
    · have hxy : x = y := by simpa using h3
      repeat (first | refine g_op rfl ?_ | refine g_then ?_ | refine g_nil ?_ | refine g_region ?_ | refine g_opS rfl ?_ | refine g_inBlock ?_ | refine g_skip ?_ | refine g_add rfl (by omega) (by omega) ?_)
      refine g_next (i + 1) ⟨hlt, fun j hj => ?_⟩ (by omega) (by repeat (first | exact trivial | refine ⟨rfl, ?_⟩)) (by simp)
      by_cases hji : j = i
      · subst hji; rw [hx, hy, hxy]
      · exact hall j (by omega)
  · have hge : i = an := by have := h2; simp at this; omega
    repeat (first | refine g_op rfl ?_ | refine g_then ?_ | refine g_nil ?_ | refine g_region ?_ | refine g_seq ?_ | refine g_exit ?_ | refine g_thenExit ?_ | refine g_exitHere ?_ | refine g_ret ?_)
    refine g_retV rfl ?_
    rw [decide_eq_true]
    apply List.ext_getElem?
    intro j
    by_cases hj : j < an
    · exact hall j (by omega)
    · rw [List.getElem?_eq_none (by omega), List.getElem?_eq_none (by omega)]
end Go.Proofs.YtbmnkjaelfjlhaaDoor


/- dom.Hang: what it returns. -/
namespace Go.Proofs.YtbmnkjaelfjlhaaDoor
open Go Go.RowKit
attribute [local irreducible] wpListIn Code.wpIn Exit.then Exit.inBlock bodyPost wpQuiet wpAnyIn
set_option maxHeartbeats 4000000

end Go.Proofs.YtbmnkjaelfjlhaaDoor


/- turneryref3.Hang: what it returns. -/
namespace Go.Proofs.YtbmnkjaelfjlhaaDoor
open Go Go.RowKit
attribute [local irreducible] wpListIn Code.wpIn Exit.then Exit.inBlock bodyPost wpQuiet wpAnyIn
set_option maxHeartbeats 4000000

end Go.Proofs.YtbmnkjaelfjlhaaDoor


/- The law DomHangs, walked. -/
namespace Go.Proofs.YtbmnkjaelfjlhaaDoor
open Go Go.RowKit
attribute [local irreducible] wpListIn Code.wpIn Exit.then Exit.inBlock bodyPost wpQuiet wpAnyIn
set_option maxHeartbeats 2000000

end Go.Proofs.YtbmnkjaelfjlhaaDoor


/- slices.Reverse, graph.OrderOf, graph.Order; two more rules. -/
namespace Go.Proofs.YtbmnkjaelfjlhaaDoor
open Go Go.RowKit

section
variable {P : Program} {ro : Option Nat} {N : Nat} {ds : List Deferred} {S : Nat → Prop} {w0 : World} {L L' : List (Nat × Value)} {H H' : List Ent} {ops : Array Oper} {rest : List Oper} {Q : Exit → Act → World → Prop} {x y : Operand}
/-- '[]T{}' -/
theorem g_build0 {d ty T e s by' : Nat} {zs : List Value} {pos : String} {aft : Array Go.Edge} [h : ElemInfo P T e s by' zs] (hd : okPut d N L = true)
    (k : ∀ b, w0.heap.size ≤ b → G N ds S w0 ((d, .slice (some ⟨b, 0, none⟩) 0 0) :: L) (Ent.vec (some ⟨b, 0, none⟩) 0 0 e s [] :: H) (wpListIn (FW ro) 0 P ops Q rest)) : G N ds S w0 L H (wpListIn (FW ro) 0 P ops Q (⟨some d, .buildSlice T 0 #[], ty, pos, aft, none⟩ :: rest)) := by
  intro a w hS
  obtain ⟨i, zz, hi, _, _, _, _⟩ := h.get
  refine step_val (v := .slice (some ⟨w.heap.size, 0, none⟩) 0 0) (w' := w.alloc (.cells #[] e)) rfl (fun _ h => by cases h) ?_ ?_
  · have hr : (Instr.buildSlice T 0 #[]).run P w = .ok (.slice (some ⟨w.heap.size, 0, none⟩) 0 0) (w.alloc (.cells #[] e)) := by
      simp [Instr.buildSlice, run_underlying h.und, sizeOf, typeInfo, hi, Instr.fill, newRow]
      congr 2
      exact Array.eq_empty_of_size_eq_zero (by simp)
    simp [execOp, hr]
  · exact k _ hS.wd.size _ _ ⟨hS.fr.putOk hd _, hS.wd.vecNew e s 0 [] (by simp) (by simp [maxLen])⟩
theorem set_self {α : Type} {l : List α} {k : Nat} {e : α} (h : l[k]? = some e) : l.set k e = l := by
  apply List.ext_getElem?
  intro i
  rw [List.getElem?_set]
  split
  · rename_i hi; subst hi
    rw [if_pos (List.getElem?_eq_some_iff.1 h).1, h]
  · rfl
end
attribute [local irreducible] wpListIn Code.wpIn Exit.then Exit.inBlock bodyPost wpQuiet wpAnyIn
set_option maxHeartbeats 4000000

instance (x : Nat) : OneV (intN x) := ⟨rfl⟩
end Go.Proofs.YtbmnkjaelfjlhaaDoor


/- dom.Post: what it returns. -/
namespace Go.Proofs.YtbmnkjaelfjlhaaDoor
open Go Go.RowKit
attribute [local irreducible] wpListIn Code.wpIn Exit.then Exit.inBlock bodyPost wpQuiet wpAnyIn
set_option maxHeartbeats 4000000

/-- a row of numbers, packed -/
theorem Wd.ints {S : Nat → Prop} {w0 w : World} {a : Option Addr} {n c e : Nat} {l : List Int} (h : Wd S w0 [Ent.vec a n c e 1 (l.map (.int .i64))] w) (hn : n = l.length) (hb : n ≤ 100000) (hi : ∀ x ∈ l, inI x) :
    Wd S w0 [⟨fps [Ent.vec a n c e 1 (l.map (.int .i64))], fun w => SlAt w (.slice a n c) 1 l IntV⟩] w := by
  have h1 : Wd S w0 ([Ent.vec a n c e 1 (l.map (.int .i64))] ++ []) w := by rw [List.append_nil]; exact h
  refine h1.pack _ fun w2 hw2 => ?_
  refine hw2.slAt (k := 0) rfl hn (by omega) fun j y hy => ⟨[.int .i64 y], fun k v hk => ?_, rfl, hi y (List.mem_of_getElem? hy)⟩
  match k, hk with
  | 0, hk => simpa [hy] using hk
end Go.Proofs.YtbmnkjaelfjlhaaDoor


/- graph.OrderOf, graph.Order, turneryref3.Walk and Order; the law GraphOrders, walked. -/
namespace Go.Proofs.YtbmnkjaelfjlhaaDoor
open Go Go.RowKit
attribute [local irreducible] wpListIn Code.wpIn Exit.then Exit.inBlock bodyPost wpQuiet wpAnyIn
set_option maxHeartbeats 4000000

/-- the list holds what is marked -/
def Rel (n : Nat) (sn : List Bool) (s : List Nat) : Prop := (∀ x ∈ s, x < n) ∧ ∀ x : Nat, x < n → (sn[x]? = some true ↔ x ∈ s)
theorem Rel.add {n b : Nat} {sn : List Bool} {s : List Nat} (h : Rel n sn s) (hl : sn.length = n) (hb : b < n) : Rel n (sn.set b true) (s ++ [b]) := by
  refine ⟨fun x hx => ?_, fun x hx => ?_⟩
  · rcases List.mem_append.1 hx with hx | hx
    · exact h.1 x hx
    · simp only [List.mem_singleton] at hx; omega
  · rw [List.getElem?_set, List.mem_append, List.mem_singleton]
    by_cases e : b = x
    · subst e
      rw [if_pos rfl, if_pos (by omega)]; simp
    · rw [if_neg e, h.2 x hx]
      exact ⟨.inl, fun h => h.resolve_right fun h => e h.symm⟩
end Go.Proofs.YtbmnkjaelfjlhaaDoor

