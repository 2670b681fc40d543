/- Texts joined: Grow RunH RunS RunI. -/
import Derived.Test.YtbmnkjaelfjlhaaDoorGD
import Derived.Test.YtbmnkjaelfjlhaaDoorGX
import Derived.Test.YtbmnkjaelfjlhaaDoorHD
/- append of so many zeros: append(s, make([]T, n)...). -/
namespace Go.Proofs.YtbmnkjaelfjlhaaDoor
open Go Go.RowKit
set_option maxHeartbeats 2000000

theorem zeroCells_one (z : Value) (m : Nat) : (Builtin.zeroCells #[z] m).toList = List.replicate m z := by
  apply List.ext_getElem?
  intro i
  simp [Builtin.zeroCells, List.getElem?_replicate, List.getElem?_range]
  by_cases h : i < m
  · simp [h, Nat.mod_one]
  · simp [h]
section
variable {P : Program} {N : Nat} {ds : List Deferred} {S : Nat → Prop} {w0 w : World} {L : List (Nat × Value)} {H Hr : List Ent} {x y : Operand} {M : Act → World → Prop} {l : List Oper} {fuel : Nat} {listed : Array Bool}
theorem Wd.appendZ (hW : Wd S w0 H w) {T U ty e by' : Nat} {kd : IntKind} {z : Value} (h : ElemInfo P T e 1 by' [z]) (hu : P.underlying U = some (.int kd)) (hz1 : z.oneCell' = true) {k : Nat} {ad : Option Addr} {n c : Nat} {xs : List Value} (hk : H[k]? = some (Ent.vec ad n c e 1 xs))
    (m : Nat) (hbytes : (n + m) * by' ≤ 140737488355328) (h63 : n + m ≤ 140737488355328) (hby : 0 < by') :
    ∃ a' c' w', (Builtin.append_ #[T, U] ty #[.slice ad n c, .int .i64 m]).run P w = .ok (.slice a' (n + m) c') w' ∧ Wd S w0 (H.set k (Ent.vec a' (n + m) c' e 1 (xs ++ List.replicate m z))) w' := by
  obtain ⟨i, zz, hi, hz, hcs, h2, h3⟩ := h.get
  subst h3
  obtain ⟨hx1, hx2⟩ := hW.get hk
  rw [Nat.mul_one] at hx1
  have hcs' : zz.cells = #[z] := by rw [hcs]
  have hwr : IntKind.i64.wrap (m : Int) = m := wrap_in _ (by omega) (by omega)
  have hm48 : ¬ (281474976710656 : Int) < (m : Int) * (i.bytes : Int) := by
    have : m * i.bytes ≤ (n + m) * i.bytes := Nat.mul_le_mul_right _ (by omega)
    have h9 : ((m * i.bytes : Nat) : Int) ≤ 140737488355328 := by omega
    rw [Int.natCast_mul] at h9
    omega
  have hm0 : ¬ (m : Int) < 0 := by omega
  have hnc : n ≤ c := by rcases hx2 with ⟨_, h2, h3⟩ | ⟨_, _, _, _, h3, _⟩ <;> omega
  have hlen : (xs ++ List.replicate m z).length = (n + m) * 1 := by simp [hx1]
  have hzl := zeroCells_one z
  have grown : ∀ old, Wd S w0 (H.set k (Ent.vec (some ⟨w.heap.size, 0, none⟩) (n + m) (grownCap w (n + m) old e) e 1 (xs ++ List.replicate m z))) (w.drew.alloc (.cells (xs.toArray ++ (Builtin.zeroCells #[z] m ++ Builtin.zeroCells #[z] (grownCap w (n + m) old e - (n + m)))) e)) := by
    intro old
    have hge := grownCap_ge w (n + m) old e
    have hcm : grownCap w (n + m) old e ≤ maxLen := grownCap_le_maxLen w (n + m) old e (by simp [maxLen]; omega)
    refine hW.turnAt hk ⟨rfl, rfl, rfl, by simp, fun b hb _ => heap_alloc_old w.drew _ hb⟩ (fun b hb => ?_) fun w2 hw2 => ?_
    · simp only [Ent.vec, Option.map_some, Option.some.injEq] at hb
      subst hb
      exact ⟨.inr (Nat.le_refl _), by simp⟩
    · have := hw2 w.heap.size (by simp [Ent.vec])
      refine ⟨hlen, .inr ⟨w.heap.size, [], (Builtin.zeroCells #[z] (grownCap w (n + m) old e - (n + m))).toList, rfl, hge, hcm, ?_, ?_⟩⟩
      · rw [hzl]; simp
      · rw [this]
        have e1 : (xs.toArray ++ (Builtin.zeroCells #[z] m ++ Builtin.zeroCells #[z] (grownCap w (n + m) old e - (n + m)))) = ([] ++ (xs ++ List.replicate m z) ++ (Builtin.zeroCells #[z] (grownCap w (n + m) old e - (n + m))).toList).toArray := by
          apply Array.toList_inj.1
          simp only [Array.toList_append, List.nil_append, hzl, List.append_assoc]
        rw [e1]
        exact heap_alloc_new w.drew _
  have h63' : ¬ ((9223372036854775807 : Int) < ((n : Int) + (m : Int))) := by omega
  have hai : ∀ w : World, (asIntOf (.int .i64 (m : Int))).run P w = .ok (.i64, (m : Int)) w := fun _ => rfl
  by_cases h0 : m = 0
  · subst h0
    refine ⟨ad, c, w, ?_, by rw [List.replicate_zero, List.append_nil, Nat.add_zero, set_self hk]; exact hW⟩
    have hw0 : IntKind.i64.wrap 0 = 0 := hwr
    have hai0 : ∀ w : World, (asIntOf (.int .i64 0)).run P w = .ok (.i64, 0) w := hai
    cases ad <;> simp [Builtin.append_, run_underlying h.und, run_underlying hu, sizeOf, typeInfo, hi, asInt, hai0, hw0, hnc, storeCells]
  by_cases hroom : n + m ≤ c
  · rcases hx2 with ⟨rfl, rfl, rfl⟩ | ⟨g, pre, sp, rfl, h4, h5, h6, h7⟩
    · omega
    have hst := run_storeCells_at P g (pre.length + n * i.size) e (List.replicate m z) 0 (pre ++ xs ++ sp).toArray w h7 (by simp [hx1, h2]; omega) (fun u hu' => by rw [List.eq_of_mem_replicate hu']; exact hz1)
    simp only [Nat.add_zero, h2, Nat.mul_one] at hst
    have etk : ((pre ++ xs ++ sp).toArray.toList.take (pre.length + n) ++ List.replicate m z ++ (pre ++ xs ++ sp).toArray.toList.drop (pre.length + n + (List.replicate m z).length)) = pre ++ (xs ++ List.replicate m z) ++ sp.drop m := by
      have e1 : pre.length + n = (pre ++ xs).length := by simp [hx1]
      have e2 : (pre ++ xs ++ sp).toArray.toList = (pre ++ xs) ++ sp := rfl
      rw [e1, e2, List.take_left, List.drop_append]
      simp [List.append_assoc]
    rw [etk] at hst
    refine ⟨_, _, _, by simp [Builtin.append_, run_underlying h.und, run_underlying hu, sizeOf, typeInfo, zeroValue, hi, hz, hcs', asInt, hai, hwr, hm0, hm48, h2, h0, hroom, hzl, Addr.add_lit, hst]; exact ⟨⟨rfl, rfl⟩, rfl⟩, ?_⟩
    have hlt : g < w.heap.size := (Array.getElem?_eq_some_iff.1 h7).1
    have hsz : ∀ cs, (w.setRow g cs).heap.size = w.heap.size := fun cs => by simp [World.setRow]
    refine hW.turnAt hk ⟨rfl, rfl, rfl, by rw [hsz]; exact Nat.le_refl _, fun b hb hne => setRow_other w g b _ (fun e => hne (by simp [Ent.vec, e]))⟩ (fun b hb => ?_) fun w2 hw2 => ?_
    · simp only [Ent.vec, Option.map_some, Option.some.injEq] at hb ⊢
      subst hb
      exact ⟨.inl rfl, by rw [hsz]; exact hlt⟩
    · have := hw2 g (by simp [Ent.vec])
      refine ⟨hlen, .inr ⟨g, pre, sp.drop m, rfl, hroom, h5, ?_, ?_⟩⟩
      · rw [List.length_drop]
        omega
      · rw [this]
        have := setRow_heap w g _ (pre ++ (xs ++ (List.replicate m z ++ List.drop m sp))).toArray e _ h7
        simpa using this
  · rcases hx2 with ⟨rfl, rfl, rfl⟩ | ⟨g, pre, sp, rfl, h4, h5, h6, h7⟩
    · have : xs = [] := List.eq_nil_of_length_eq_zero hx1
      subst this
      have hfit : ¬ 281474976710656 < Builtin.nextslicecap m 0 * i.bytes := by
        have := growslice_fits (need := 0 + m) (old := 0) (by omega) hbytes
        simp only [Nat.zero_add] at this
        omega
      have h63z : ¬ (9223372036854775807 : Int) < (m : Int) := by omega
      have hgr := grown 0
      simp only [Nat.zero_add, List.nil_append, Array.empty_append] at hgr ⊢
      refine ⟨_, _, _, ?_, hgr⟩
      simp [Builtin.append_, run_underlying h.und, run_underlying hu, sizeOf, typeInfo, zeroValue, hi, hz, hcs', asInt, hai, hwr, hm0, hm48, h2, h0, h63z, hfit, Question.forced, run_firstCells_none, newRow, grownCap]
    · have hfit : ¬ 281474976710656 < Builtin.nextslicecap (n + m) c * i.bytes := by
        have := growslice_fits (need := n + m) (old := c) (by omega) hbytes
        omega
      have holds : ∀ j u, xs[j]? = some u → w.drew.cell? ((⟨g, pre.length, none⟩ : Addr).add j) = some u := fun j u hj => by
        rw [Addr.add_lit]
        exact hW.vecCell hk hj
      have hfo := run_firstCells_some (P := P) w.drew i.size n ⟨g, pre.length, none⟩ n c xs (by rw [h2, Nat.mul_one]; exact hx1) holds
      rw [h2] at hfo
      refine ⟨_, _, _, ?_, grown c⟩
      simp [Builtin.append_, run_underlying h.und, run_underlying hu, sizeOf, typeInfo, zeroValue, hi, hz, hcs', asInt, hai, hwr, hm0, hm48, h2, h0, hroom, h63', hfit, Question.forced, hfo, newRow, grownCap]
theorem o_appendZ {d ty T U e by' : Nat} {kd : IntKind} {z : Value} {pos : String} {aft : Array Go.Edge} {ad : Option Addr} {n c m : Nat} (i0 : Nat) {k : Nat} {xs : List Value} [ho : ListAt l i0 ⟨some d, .call { callee := .builtin .append, args := #[x, y], argTypes := #[T, U] }, ty, pos, aft, none⟩] [h : ElemInfo P T e 1 by' [z]] [hx : Ev L x (.slice ad n c)] [hy : Ev L y (.int .i64 m)]
    [hv : VecIn H ad n c k e 1 xs] (hu : P.underlying U = some (.int kd)) (hd : okPut d N L = true) (hz1 : z.oneCell' = true) (hbytes : (n + m) * by' ≤ 140737488355328) (h63 : n + m ≤ 140737488355328) (hby : 0 < by') (hH : ∀ e', Hr.Sublist (H.set k e'))
    (kk : ∀ a' c', G N ds S w0 ((d, .slice a' (n + m) c') :: L) (H.set k (Ent.vec a' (n + m) c' e 1 (xs ++ List.replicate m z))) (wpAnyH P .any l.toArray (OnlyN M) (Wd S w0 Hr) fuel (listed.setIfInBounds i0 true))) : G N ds S w0 L H (oneH P l M (Wd S w0 Hr) fuel listed i0) :=
  o_valH i0 rfl fun a w hS => by
    obtain ⟨a', c', w', hr, hw'⟩ := hS.wd.appendZ (P := P) (ty := ty) h hu hz1 hv.at' m hbytes h63 hby
    exact ⟨.slice a' (n + m) c', w', by simp [execOp, resolve, invoke, builtin, hx.eq _ _ _ hS.fr, hy.eq _ _ _ hS.fr, hr], hw'.sub (hH _), kk a' c' _ _ ⟨hS.fr.putOk hd _, hw'⟩⟩
theorem o_make {d ty T e by' n : Nat} {z1 z2 : Int} {z : Value} {pos : String} {aft : Array Go.Edge} (i0 : Nat) [ho : ListAt l i0 ⟨some d, .makeSlice T x y, ty, pos, aft, none⟩] [h : ElemInfo P T e 1 by' [z]] [hx : Ev L x (.int .i64 z1)] [hz1 : NatIs z1 n] [hy : Ev L y (.int .i64 z2)] [hz2 : NatIs z2 n] (hd : okPut d N L = true) (hb : by' * n ≤ 281474976710656) (hm : n ≤ 140737488355328) (hH : Hr.Sublist H)
    (k : ∀ b, w0.heap.size ≤ b → G N ds S w0 ((d, .slice (some ⟨b, 0, none⟩) n n) :: L) (Ent.vec (some ⟨b, 0, none⟩) n n e 1 (List.replicate n z) :: H) (wpAnyH P .any l.toArray (OnlyN M) (Wd S w0 Hr) fuel (listed.setIfInBounds i0 true))) : G N ds S w0 L H (oneH P l M (Wd S w0 Hr) fuel listed i0) :=
  o_valH i0 rfl fun a w hS => by
    obtain ⟨i, zz, hi, hzz, hcs, h1, h2⟩ := h.get
    have h3 := hx.eq _ _ _ hS.fr
    have h4 := hy.eq _ _ _ hS.fr
    rw [hz1.eq] at h3
    rw [hz2.eq] at h4
    have hb'' : (i.bytes : Int) * (n : Int) ≤ 281474976710656 := by
      have e : ((by' * n : Nat) : Int) ≤ 281474976710656 := by omega
      rw [Int.natCast_mul] at e; rw [h2]; exact e
    have hr := run_make (P := P) w T e i zz h.und hi hzz .i64 .i64 (n : Int) (n : Int) (by omega) (Int.le_refl _) hb'' (by omega)
    have hxs : madeCells zz.cells ((n : Int).toNat * i.size) = (List.replicate n z).toArray := by
      have := toList_madeCells [z] n
      rw [h1, hcs, Int.toNat_natCast]
      simp only [List.length_singleton] at this
      rw [show (List.replicate n [z]).flatten = List.replicate n z by simp] at this
      rw [← this]
    have hv := hS.wd.vecNew e 1 n (List.replicate n z) (by rw [List.length_replicate, Nat.mul_one]) (by unfold maxLen; omega)
    refine ⟨.slice (some ⟨w.heap.size, 0, none⟩) n n, w.alloc (.cells (List.replicate n z).toArray e), ?_, hv.sub (hH.trans (List.sublist_cons_self _ _)), k _ hS.wd.size _ _ ⟨hS.fr.putOk hd _, hv⟩⟩
    simp only [Int.toNat_natCast] at hr hxs
    simp [execOp, h3, h4, hr, hxs]
end
end Go.Proofs.YtbmnkjaelfjlhaaDoor


/- What run.Counts calls before the first step. -/
namespace Go.Proofs.YtbmnkjaelfjlhaaDoor
open Go Go.RowKit
attribute [local irreducible] wpListIn Code.wpIn Exit.then Exit.inBlock bodyPost wpQuiet wpAnyIn wpAnyH bodyPostM oneH
set_option maxHeartbeats 8000000

theorem mainF_c (v : Value) (l : List LFunc) (w0 : World) (hv : SlAt w0 v 4 l FuncV) :
    RetV Tryd.prog 43 [v, .func (.func 55) #[] #[]] w0 (.int .i64 (mainAt l)) := by
  obtain ⟨a, n, c, b, o, rfl, hn, hnc, hnb, hc, ha, hel⟩ := hv
  have one : ∀ (w : World) (x : LFunc) (v : Value), RetV Tryd.prog 55 [.agg #[.string x.name, .int .i64 x.params, .int .i64 x.regs, v]] w (.bool (isMain x)) := by
    intro w x v
    refine ret_enter Tryd.func55 rfl Tryd.ntmps55 rfl (Wd.nil NoS w) ?_
    repeat (first | refine g_op rfl ?_ | refine g_then ?_ | refine g_nil ?_ | refine g_region ?_ | refine g_seq ?_ | refine g_opS rfl ?_ | refine g_box rfl fun _ _ => ?_ | refine g_ret ?_)
    exact g_retV rfl rfl
  refine ret_enter Tryd.func43 rfl Tryd.ntmps43 rfl (Wd.nil NoS w0) ?_
  repeat (first | refine g_op rfl ?_ | refine g_then ?_ | refine g_nil ?_ | refine g_region ?_ | refine g_seq ?_ | refine g_block ?_)
  refine g_loop (fun (i : Nat) => i ≤ n ∧ ∀ j t, j < i → l[j]? = some t → isMain t = false) (fun i => [(8, .int .i64 i), (0, .slice a n c), (1, .func (.func 55) #[] #[]), (7, .int .i64 n)]) (fun _ => []) (fun i => n - i) 0 ⟨Nat.zero_le _, by simp⟩ (g_done (by repeat (first | exact trivial | refine ⟨rfl, ?_⟩)) (by simp)) fun i ⟨hi, hall⟩ => ?_
  repeat (first | refine g_op rfl ?_ | refine g_then ?_ | refine g_nil ?_ | refine g_region ?_ | refine g_seq ?_)
  refine g_cond (fun h1 => ?_) (fun h1 => ?_)
  · have hlt : i < n := by simpa using h1
    obtain ⟨x, hx⟩ := get_lt hn hlt
    have had : AddrIs a b o := ⟨ha (ne_of_get hx)⟩
    have hli : LtIs i n := ⟨hlt⟩
    obtain ⟨cs, hcs, bv, rfl, _⟩ := hel i x hx
    have hci : CellsIs w0 b (o + i * 4) _ := ⟨hcs⟩
    repeat (first | refine g_op rfl ?_ | refine g_then ?_ | refine g_nil ?_ | refine g_region ?_ | refine g_seq ?_ | refine g_block ?_ | refine g_skip ?_)
    refine g_callFV rfl (us := []) (vs := [.agg #[.string x.name, .int .i64 x.params, .int .i64 x.regs, bv]]) (xs := []) (fun w _ => one w x bv) ?_
    repeat (first | refine g_then ?_ | refine g_nil ?_)
    refine g_cond (fun h2 => ?_) (fun h2 => ?_)
    · repeat (first | refine g_op rfl ?_ | refine g_then ?_ | refine g_nil ?_ | refine g_region ?_ | refine g_seq ?_ | refine g_ret ?_ | refine g_thenRet ?_ | refine g_blockRet ?_)
      refine g_retV rfl ?_
      have : l.findIdx? isMain = some i := by
        rw [List.findIdx?_eq_some_iff_getElem]
        have hil : i < l.length := by omega
        have hxi : l[i] = x := (List.getElem?_eq_some_iff.1 hx).2
        exact ⟨hil, by rw [hxi]; exact h2, fun j hj => by have := hall j l[j] hj (List.getElem?_eq_getElem (by omega)); simp [this]⟩
      simp [mainAt, this]
    · repeat (first | refine g_then ?_ | refine g_nil ?_ | refine g_region ?_ | refine g_opS rfl ?_ | refine g_inBlock ?_ | refine g_skip ?_ | refine g_add rfl (by omega) (by omega) ?_)
      refine g_next (i + 1) ⟨hlt, fun j t hj ht => ?_⟩ (by omega) (by repeat (first | exact trivial | refine ⟨rfl, ?_⟩)) (by simp)
      by_cases hji : j = i
      · subst hji
        rw [hx] at ht
        simp only [Option.some.injEq] at ht
        subst ht; exact h2
      · exact hall j t (by omega) ht
  · have hge : i = n := by have := h1; simp at this; omega
    repeat (first | refine g_op rfl ?_ | refine g_then ?_ | refine g_nil ?_ | refine g_region ?_ | refine g_seq ?_ | refine g_exit ?_ | refine g_thenExit ?_ | refine g_exitHere ?_ | refine g_ret ?_)
    refine g_retV rfl ?_
    have : l.findIdx? isMain = none := by
      rw [List.findIdx?_eq_none_iff]
      intro t ht
      obtain ⟨j, hj⟩ := List.getElem?_of_mem ht
      exact hall j t (by have := (List.getElem?_eq_some_iff.1 hj).1; omega) hj
    simp [mainAt, this]
theorem tabOf_c (u : LUnit) (hl : light u) (h0 : (checkL u).1 = 0) (k : Nat) (X : LFunc) (hX : u.funcs[k]? = some X) (hlen : X.blocks.length ≤ 100) (hgood : GoodB X.blocks) (g fs : Value) (w0 : World) (hg : SlAt w0 g 3 u.globals GlobalV) (hf : SlAt w0 fs 4 u.funcs FuncV) (hways : CellsAt w0 0 0 waysC) :
    Ret Tryd.prog 53 [.agg #[g, fs], .int .i64 k] w0 fun u w' => ∃ x : (Option Addr × Nat × Nat) × (Nat → Prop), u = .tuple #[.slice x.1.1 x.1.2.1 x.1.2.2, .agg #[.int .i64 0, .int .i64 0]] ∧ Wd NoS w0 [⟨x.2, fun w => SlAt w (.slice x.1.1 x.1.2.1 x.1.2.2) 1 (aheadL X.blocks) RowV⟩] w' ∧ True := by
  have hg0 := hg
  have hf0 := hf
  obtain ⟨ga, gn, gc, gb, go, rfl, _⟩ := hg
  obtain ⟨fa, fn, fc, fb, fo, rfl, hfn, hfnc, hfnb, hfc, hfa, hfel⟩ := hf
  have hkl : k < fn := by rw [hfn]; exact (List.getElem?_eq_some_iff.1 hX).1
  have had : AddrIs fa fb fo := ⟨hfa (ne_of_get hX)⟩
  have hli : LtIs k fn := ⟨hkl⟩
  obtain ⟨cs, hcs, bv, rfl, hpi, hri, hbv⟩ := hfel k X hX
  have hci : CellsIs w0 fb (fo + k * 4) _ := ⟨hcs⟩
  refine ret_enter Tryd.func53 rfl Tryd.ntmps53 rfl (Wd.nil NoS w0) ?_
  repeat (first | refine g_op rfl ?_ | refine g_then ?_ | refine g_nil ?_ | refine g_region ?_ | refine g_seq ?_ | refine g_box rfl fun _ _ => ?_ | refine g_alloc rfl fun _ _ => ?_)
  refine g_callV rfl (fun w hw => check_c u hl _ _ w (hg0.keep keeps_global hw.chg) (hf0.keep keeps_func hw.chg) (hways.keep hw.chg)) ?_
  rw [checkL_zero h0]
  repeat (first | refine g_op rfl ?_ | refine g_then ?_ | refine g_nil ?_ | refine g_region ?_ | refine g_seq ?_ | refine g_alloc rfl fun _ _ => ?_ | refine g_storeAgg ?_ | refine g_skip ?_ | refine g_condF ?_ | refine g_sub rfl (by omega) (by omega) ?_)
  refine g_callV rfl (fun w _ => within_c _ _ _ w) ?_
  rw [show within (k : Int) 0 ((fn : Int) - 1) = true by simp [within]; omega]
  repeat (first | refine g_op rfl ?_ | refine g_then ?_ | refine g_nil ?_ | refine g_region ?_ | refine g_seq ?_ | refine g_skip ?_ | refine g_condF ?_)
  refine g_callE (val := fun x : (Option Addr × Nat × Nat) × (Nat → Prop) => .slice x.1.1 x.1.2.1 x.1.2.2) (E := fun x => [⟨x.2, fun w => SlAt w (.slice x.1.1 x.1.2.1 x.1.2.2) 1 (aheadL X.blocks) RowV⟩]) (φ := fun _ => True) rfl (fun w hw => ahead_c _ _ _ X.blocks _ w (hbv.keep keeps_block hw.chg) hlen hgood) fun x _ => ?_
  simp only [List.cons_append, List.nil_append]
  repeat (first | refine g_op rfl ?_ | refine g_then ?_ | refine g_nil ?_ | refine g_opS rfl ?_ | refine g_storeAgg ?_ | refine g_ret ?_)
  refine g_retTC rfl fun w' hw' => ⟨x, rfl, hw'.sub (List.Sublist.cons_cons _ (List.nil_sublist _)), trivial⟩
end Go.Proofs.YtbmnkjaelfjlhaaDoor


/- The start of a run. -/
namespace Go.Proofs.YtbmnkjaelfjlhaaDoor
open Go Go.RowKit
set_option maxHeartbeats 2000000

/-- the rows of the blocks ahead of each, where they lie -/
structure TabR where
  a : Option Addr
  n : Nat
  c : Nat
  fp : Nat → Prop
  l : List (List Int)
def tabV (t : TabR) : Value := .slice t.a t.n t.c
def tabE (t : TabR) : Ent := ⟨t.fp, fun w => SlAt w (.slice t.a t.n t.c) 1 t.l RowV⟩
theorem tabs_sl {S : Nat → Prop} {w0 w : World} {ts : List TabR} {a : Option Addr} {n c e : Nat} {H : List Ent} (h : Wd S w0 (Ent.vec a n c e 1 (ts.map tabV) :: (ts.map tabE ++ H)) w) (hn : n = ts.length) (hb : n ≤ 100) : SlAt w (.slice a n c) 1 (ts.map (·.l)) TabV := by
  refine h.slAt (k := 0) rfl (by simpa using hn) (by omega) fun i x hx => ?_
  rw [List.getElem?_map] at hx
  obtain ⟨t, ht, rfl⟩ := Option.map_eq_some_iff.1 hx
  refine ⟨[tabV t], fun j v hj => ?_, tabV t, rfl, ?_⟩
  · match j, hj with
    | 0, hj => simpa [ht] using hj
  · exact h.ok (tabE t) (List.mem_cons_of_mem _ (List.mem_append_left _ (List.mem_map.2 ⟨t, List.mem_of_getElem? ht, rfl⟩))) _ (Nat.le_refl _) fun _ _ => rfl
section
variable {P : Program} {ro : Option Nat} {N : Nat} {ds : List Deferred} {S : Nat → Prop} {w0 : World} {L : List (Nat × Value)} {H : List Ent} {Q : Exit → Act → World → Prop}
theorem g_midX {α : Type} {c y : Code} (φ : α → Prop) (Lx : α → List (Nat × Value)) (Hx : α → List Ent) (h1 : G N ds S w0 L H (Code.wpIn (FW ro) 0 P c (Exit.then (MemX N ds S w0 φ Lx Hx) Q))) (h2 : ∀ x, φ x → G N ds S w0 (Lx x) (Hx x) (Code.wpIn (FW ro) 0 P y Q)) : G N ds S w0 L H (Code.wpIn (FW ro) 0 P c (Exit.then (Code.wpIn (FW ro) 0 P y Q) Q)) := fun a w hS =>
  Code.wpIn_mono (fun e a' w' q => by
    cases e with
    | normal => obtain ⟨x, hx, hS'⟩ := q; exact h2 x hx a' w' hS'
    | _ => exact q) (h1 a w hS)
theorem g_retTCC {fn : Func} {R : Value → World → Prop} {q s T2 n2 b2 j2 bt2 t T n b j bt : Nat} {u : Value} {cs cs2 : List Value} (hr : fn.results = #[.tmp q, .cell s T2, .cell t T]) [hq : SlotIs L q u] [hu : SlotIs L s (.pointer (some ⟨b2, 0, none⟩))] [h2 : AggSize P T2 n2] [hb2 : BoxIn H b2 j2 cs2 bt2] [hl2 : LenIs cs2 n2] [hv : SlotIs L t (.pointer (some ⟨b, 0, none⟩))] [h : AggSize P T n] [hb : BoxIn H b j cs bt] [hl : LenIs cs n] (hR : ∀ w, Wd S w0 H w → R (.tuple #[u, .agg cs2.toArray, .agg cs.toArray]) w) : G N [] S w0 L H (bodyPost P fn (fun e w' => ∃ v, e = .returned v ∧ R v w') .ret) := fun a w hS => by
  refine ⟨hS.fr.defers, _, ?_, _, rfl, hR w hS.wd⟩
  have h3 := run_loadBox (P := P) (T := T) (b := b) (cs := cs) hS.wd
  have h4 := run_loadBox (P := P) (T := T2) (b := b2) (cs := cs2) hS.wd
  simp [results, hr, Array.getD_eq_getD_getElem?, hS.fr.slot _ hv.mem, hS.fr.slot _ hu.mem, hS.fr.slot _ hq.mem, asAddr, h3, h4]
end
theorem perm_start {α : Type} (w x8 x7 x3 me av cs fr ot : α) (T C : List α) : ((w :: x8 :: x7 :: x3 :: me :: av :: cs :: (T ++ C)) ++ [fr] ++ [ot]).Perm ((w :: fr :: me :: ot :: cs :: ([] ++ C)) ++ (av :: (T ++ [x8, x7, x3]))) := by
  classical
  exact List.perm_iff_count.2 fun z => by simp only [List.count_append, List.count_cons, List.count_nil]; omega
theorem perm_last {α : Type} (w x8 x7 x3 fr me ot cs av : α) (F T C : List α) : ((w :: fr :: me :: ot :: cs :: (F ++ C)) ++ (av :: (T ++ [x8, x7, x3]))).Perm (w :: x8 :: x7 :: ot :: cs :: (C ++ (fr :: me :: av :: x3 :: (F ++ T)))) := by
  classical
  exact List.perm_iff_count.2 fun z => by simp only [List.cons_append, List.count_append, List.count_cons, List.count_nil]; omega
/-- what is so of a unit that passes the check -/
structure StartOk (u : LUnit) : Prop where
  globs : u.globals.length ≤ 10
  glob : ∀ g ∈ u.globals, (g.init.length : Int) ≤ g.size ∧ g.size ≤ 200
  init : ∀ g ∈ u.globals, ∀ x ∈ g.init, inI x
  funcs : u.funcs.length ≤ 10
  main : ∃ (fm : Nat) (M : LFunc), mainAt u.funcs = fm ∧ u.funcs[fm]? = some M
theorem memL_take {l : List LGlobal} {i : Nat} {x : LGlobal} (h : l[i]? = some x) : memL (l.take (i + 1)) = memL (l.take i) ++ (x.init ++ List.replicate (x.size.toNat - x.init.length) 0) := by
  simp [memL, List.take_add_one, h]
theorem memL_len {l : List LGlobal} (h : ∀ g ∈ l, (g.init.length : Int) ≤ g.size ∧ g.size ≤ 200) : (memL l).length ≤ 200 * l.length := by
  induction l with
  | nil => simp [memL]
  | cons g l ih =>
    have h1 := h g (by simp)
    have h2 := ih fun x hx => h x (List.mem_cons_of_mem _ hx)
    simp only [memL, List.flatMap_cons, List.length_append, List.length_replicate, List.length_cons] at h2 ⊢
    omega
theorem memL_in {l : List LGlobal} (h : ∀ g ∈ l, ∀ x ∈ g.init, inI x) : ∀ x ∈ memL l, inI x := fun x hx => by
  obtain ⟨g, hg, hx⟩ := List.mem_flatMap.1 hx
  rcases List.mem_append.1 hx with h1 | h1
  · exact h g hg x h1
  · rw [List.eq_of_mem_replicate h1]; simp [inI]
/-- the machine when main is entered -/
theorem start_eq {u : LUnit} {fm R : Nat} {M : LFunc} (hm : mainAt u.funcs = fm) (hM : u.funcs[fm]? = some M) (hR : M.regs = R) (inp : List Int) : startM u inp = ⟨memL u.globals, inp, [], 0, [], ⟨fm, 0, 0, enterR R [], -1⟩, bump (u.funcs.map fun X => List.replicate X.blocks.length 0) fm 0⟩ := by
  unfold startM
  simp only [hm, Int.toNat_natCast, hM, hR]
  simp [enterR]
theorem start_ok {u : LUnit} (hu : UnitFit u) (hs : StartOk u) {inp : List Int} (hin : ∀ x ∈ inp, inI x) : MacOk u 1 (startM u inp) := by
  obtain ⟨fm, M, hm, hM⟩ := hs.main
  obtain ⟨R, hfit⟩ := hu.2 fm M hM
  rw [start_eq hm hM hfit.regs]
  refine ⟨⟨M, R, ⟨hM, hfit, enterR_length _ _, hfit.pos, enterR_in (by simp), by simp [inI], fun _ _ => Nat.zero_le _⟩⟩, by simp, ?_, bump_cnt (c := 0) ⟨by simp, fun k X hX => ⟨_, by rw [List.getElem?_map, hX]; rfl, by simp, fun x hx => by rw [List.eq_of_mem_replicate hx]; exact Nat.le_refl _⟩⟩ _ _, by simp, by simp, ⟨?_, memL_in hs.init⟩, hin⟩
  · intro i p q h1 h2
    simp at h1 h2
  · have := memL_len hs.glob
    have h9 := hs.globs
    show (memL u.globals).length ≤ 100000
    omega
end Go.Proofs.YtbmnkjaelfjlhaaDoor


/- run.Counts. -/
namespace Go.Proofs.YtbmnkjaelfjlhaaDoor
open Go Go.RowKit
attribute [local irreducible] wpListIn Code.wpIn Exit.then Exit.inBlock bodyPost wpQuiet wpAnyIn wpAnyH bodyPostM oneH
set_option maxHeartbeats 8000000

theorem perm_row {α : Type} (x y a b c d e f g : α) (T C : List α) : (x :: y :: a :: b :: c :: d :: e :: f :: g :: (T ++ C)).Perm (a :: b :: c :: d :: e :: f :: g :: ((T ++ [y]) ++ (C ++ [x]))) := by
  classical
  exact List.perm_iff_count.2 fun z => by simp only [List.count_append, List.count_cons, List.count_nil]; omega
theorem counts_c (u : LUnit) (hl : light u) (h0 : (checkL u).1 = 0) (hs : StartOk u) (hu : UnitFit u) (g fs iv : Value) (inp : List Int) (fuel : Nat) (hfu : fuel ≤ 100000) (hinl : inp.length ≤ 30) (w0 : World) (hg : SlAt w0 g 3 u.globals GlobalV) (hf : SlAt w0 fs 4 u.funcs FuncV) (hin : SlAt w0 iv 1 inp IntV) (hways : CellsAt w0 0 0 waysC) :
    Ret Tryd.prog 25 [.agg #[g, fs], iv, .int .i64 fuel] w0 fun v w' => ∃ m : MacV, v = .tuple #[.slice m.ca m.cs.length m.cc, .agg #[.int .i64 m.state, .int .i64 m.value, .slice m.oa m.out.length m.oc, .int .i64 m.steps], .agg #[.int .i64 0, .int .i64 0]] ∧
      Wd NoS w0 (outE m :: cnsE m :: m.cs.map cnE) w' ∧ FinRep m (resultM u inp fuel) := by
  have hg0 := hg
  have hf0 := hf
  have hin0 := hin
  obtain ⟨ga, gn, gc, gb, go, rfl, hgn, hgnc, hgnb, hgc, hga, hgel⟩ := hg
  obtain ⟨fa, fn, fc, fb, fo, rfl, hfn, hfnc, hfnb, hfc, hfa, hfel⟩ := hf
  obtain ⟨ia, il, ic, ib, io, rfl, hil, hilc, hilb, hicb, hia, hiel⟩ := hin
  refine ret_enter Tryd.func25 rfl Tryd.ntmps25 rfl (Wd.nil NoS w0) ?_
  repeat (first | refine g_op rfl ?_ | refine g_then ?_ | refine g_nil ?_ | refine g_region ?_ | refine g_seq ?_ | refine g_box rfl fun _ _ => ?_ | refine g_alloc rfl fun _ _ => ?_)
  refine g_callV rfl (fun w hw => check_c u hl _ _ w (hg0.keep keeps_global hw.chg) (hf0.keep keeps_func hw.chg) (hways.keep hw.chg)) ?_
  rw [checkL_zero h0]
  repeat (first | refine g_op rfl ?_ | refine g_then ?_ | refine g_nil ?_ | refine g_region ?_ | refine g_seq ?_ | refine g_alloc rfl fun _ _ => ?_ | refine g_storeAgg ?_ | refine g_skip ?_ | refine g_condF ?_)
  rw [show decide ((30 : Int) < (il : Int)) = false by simp; omega]
  repeat (first | refine g_op rfl ?_ | refine g_then ?_ | refine g_region ?_ | refine g_seq ?_ | refine g_skip ?_ | refine g_condF ?_)
  refine g_callV rfl (fun w _ => within_c _ _ _ w) ?_
  rw [show within (fuel : Int) 0 100000 = true by simp [within]; omega]
  repeat (first | refine g_op rfl ?_ | refine g_then ?_ | refine g_nil ?_ | refine g_region ?_ | refine g_seq ?_ | refine g_box rfl fun _ _ => ?_ | refine g_block ?_ | refine g_skip ?_ | refine g_condF ?_)
  rename_i p3 _ p7 _ p8 _ p9 _ p _
  refine g_nilVecs 3 1 1 ?_
  refine g_loop (fun (x : Nat × Option Addr × Nat) => x.1 ≤ gn) (fun x => [(41, .int .i64 x.1), (39, (Value.slice ga gn gc)), (40, .int .i64 gn), (10, .pointer (some ⟨p, 0, none⟩)), (3, .pointer (some ⟨p3, 0, none⟩)), (7, .pointer (some ⟨p7, 0, none⟩)), (8, .pointer (some ⟨p8, 0, none⟩)), (2, .int .i64 fuel)]) (fun x => [Ent.box p [(Value.slice ga gn gc), (Value.slice fa fn fc), (Value.slice none 0 0), .slice x.2.1 (memL (u.globals.take x.1)).length x.2.2, (Value.slice ia il ic), .int .i64 0, .int .i64 0, (Value.slice none 0 0), .int .i64 0, (Value.slice none 0 0), (Value.slice none 0 0)] 100, Ent.box p8 [.int .i64 0, .int .i64 0] 28, Ent.box p7 [.int .i64 0, .int .i64 0, .slice none 0 0, .int .i64 0] 52, Ent.box p3 [(Value.slice ga gn gc), (Value.slice fa fn fc)] 25, Ent.vec x.2.1 (memL (u.globals.take x.1)).length x.2.2 3 1 ((memL (u.globals.take x.1)).map (.int .i64))]) (fun x => gn - x.1) (0, none, 0)
    (Nat.zero_le _) (g_done (by repeat (first | exact trivial | refine ⟨rfl, ?_⟩)) (List.Sublist.cons_cons _ (List.Sublist.cons _ (List.Sublist.refl _)))) fun x hi => ?_
  obtain ⟨i, ma, mc⟩ := x
  simp only at hi ⊢
  repeat (first | refine g_op rfl ?_ | refine g_then ?_ | refine g_nil ?_ | refine g_region ?_ | refine g_seq ?_)
  refine g_cond (fun h1 => ?_) (fun h1 => ?_)
  · have hlt : i < gn := by simpa using h1
    obtain ⟨G, hG⟩ := get_lt hgn hlt
    have hadg : AddrIs ga gb go := ⟨hga (ne_of_get hG)⟩
    have hli : LtIs i gn := ⟨hlt⟩
    obtain ⟨cs, hcs, Iv, rfl, hsz, hiv⟩ := hgel i G hG
    have hcig : CellsIs w0 gb (go + i * 3) _ := ⟨hcs⟩
    have hiv0 := hiv
    obtain ⟨na, nn, nc, nb, no, rfl, hnn, hnnc, hnnb, hncb, hna, hnel⟩ := hiv
    have hGm := List.mem_of_getElem? hG
    have hgl := hs.glob G hGm
    have hml : (memL (u.globals.take i)).length ≤ 2000 := by
      have := memL_len (l := u.globals.take i) fun g hg => hs.glob g (List.mem_of_mem_take hg)
      have h9 := hs.globs
      rw [List.length_take] at this
      omega
    repeat (first | refine g_op rfl ?_ | refine g_then ?_ | refine g_nil ?_ | refine g_region ?_ | refine g_seq ?_ | refine g_alloc rfl fun _ _ => ?_ | refine g_storeAgg ?_ | refine g_block ?_ | refine g_skip ?_)
    rename_i p12 _
    obtain ⟨ml, hml'⟩ : ∃ ml, ml = memL (u.globals.take i) := ⟨_, rfl⟩
    rw [← hml'] at hml ⊢
    refine g_drawX [Ent.box p12 [.string G.name, .int .i64 G.size, .slice na nn nc] 78] (fun _ : Option Addr × Nat => True) (fun _ => [(12, .pointer (some ⟨p12, 0, none⟩)), (41, .int .i64 i), (39, (Value.slice ga gn gc)), (40, .int .i64 gn), (10, .pointer (some ⟨p, 0, none⟩)), (3, .pointer (some ⟨p3, 0, none⟩)), (7, .pointer (some ⟨p7, 0, none⟩)), (8, .pointer (some ⟨p8, 0, none⟩)), (2, .int .i64 fuel)]) (fun x => [Ent.box p12 [.string G.name, .int .i64 G.size, .slice na nn nc] 78, Ent.box p [(Value.slice ga gn gc), (Value.slice fa fn fc), (Value.slice none 0 0), .slice x.1 (ml.length + nn) x.2, (Value.slice ia il ic), .int .i64 0, .int .i64 0, (Value.slice none 0 0), .int .i64 0, (Value.slice none 0 0), (Value.slice none 0 0)] 100, Ent.box p8 [.int .i64 0, .int .i64 0] 28, Ent.box p7 [.int .i64 0, .int .i64 0, .slice none 0 0, .int .i64 0] 52, Ent.box p3 [(Value.slice ga gn gc), (Value.slice fa fn fc)] 25, Ent.vec x.1 (ml.length + nn) x.2 3 1 (ml.map (.int .i64) ++ G.init.flatMap fun y => [.int .i64 y])]) mixed (by repeat (first | exact List.Sublist.refl _ | exact List.nil_sublist _ | refine List.Sublist.cons_cons _ ?_)) ?_ fun x _ => ?_
    · skip
      refine h_take 0 rfl (by decide +kernel) (by repeat (first | exact List.Sublist.refl _ | exact List.nil_sublist _ | refine List.Sublist.cons_cons _ ?_)) ?_
      refine h_take 1 rfl (by decide +kernel) (by repeat (first | exact List.Sublist.refl _ | exact List.nil_sublist _ | refine List.Sublist.cons_cons _ ?_)) ?_
      refine h_take 2 rfl (by decide +kernel) (by repeat (first | exact List.Sublist.refl _ | exact List.nil_sublist _ | refine List.Sublist.cons_cons _ ?_)) ?_
      refine h_take 3 rfl (by decide +kernel) (by repeat (first | exact List.Sublist.refl _ | exact List.nil_sublist _ | refine List.Sublist.cons_cons _ ?_)) ?_
      refine h_take 5 rfl (by decide +kernel) (by repeat (first | exact List.Sublist.refl _ | exact List.nil_sublist _ | refine List.Sublist.cons_cons _ ?_)) ?_
      refine h_take 6 rfl (by decide +kernel) (by repeat (first | exact List.Sublist.refl _ | exact List.nil_sublist _ | refine List.Sublist.cons_cons _ ?_)) ?_
      refine h_one 4 (by decide +kernel) (o_op 4 rfl (by repeat (first | exact List.Sublist.refl _ | exact List.nil_sublist _ | refine List.Sublist.cons_cons _ ?_)) ?_)
      refine h_one 7 (by decide +kernel) (o_appendF 7 rfl rfl G.init (V := IntV) (fun y => [.int .i64 y]) (fun _ _ _ h => h.1) (fun _ => rfl) (fun _ v hv => by rw [List.mem_singleton.1 hv]; rfl) (fun w hw => hiv0.keep keeps_int hw.chg) (by omega) (by omega) (fun _ => (by repeat (first | exact List.Sublist.refl _ | exact List.nil_sublist _ | refine List.Sublist.cons_cons _ ?_))) fun a' c' => ?_)
      simp only [List.set_cons_zero, List.set_cons_succ]
      refine h_take 8 rfl (by decide +kernel) (by repeat (first | exact List.Sublist.refl _ | exact List.nil_sublist _ | refine List.Sublist.cons_cons _ ?_)) ?_
      refine h_take 9 rfl (by decide +kernel) (by repeat (first | exact List.Sublist.refl _ | exact List.nil_sublist _ | refine List.Sublist.cons_cons _ ?_)) ?_
      refine h_store 10 (by decide +kernel) (by repeat (first | exact List.Sublist.refl _ | exact List.nil_sublist _ | refine List.Sublist.cons_cons _ ?_)) ?_
      refine h_end (by decide +kernel) ?_
      exact g_mem (a', c') trivial (by repeat (first | exact trivial | refine ⟨rfl, ?_⟩)) (List.Sublist.refl _)
    obtain ⟨a1, c1⟩ := x
    simp only
    have hfm : (ml.map (.int .i64) ++ G.init.flatMap fun y => [Value.int .i64 y]) = (ml ++ G.init).map (.int .i64) := by rw [flat_one, ← List.map_append]
    obtain ⟨k, hk⟩ : ∃ k : Nat, k = G.size.toNat - G.init.length := ⟨_, rfl⟩
    have hks : G.size - (nn : Int) = k := by omega
    have hkl : k ≤ 200 := by omega
    repeat (refine g_then ?_)
    refine g_drawX [Ent.box p12 [.string G.name, .int .i64 G.size, .slice na nn nc] 78] (fun _ : Option Addr × Nat => True) (fun _ => [(41, .int .i64 i), (39, (Value.slice ga gn gc)), (40, .int .i64 gn), (10, .pointer (some ⟨p, 0, none⟩)), (3, .pointer (some ⟨p3, 0, none⟩)), (7, .pointer (some ⟨p7, 0, none⟩)), (8, .pointer (some ⟨p8, 0, none⟩)), (2, .int .i64 fuel)]) (fun x => [Ent.box p [(Value.slice ga gn gc), (Value.slice fa fn fc), (Value.slice none 0 0), .slice x.1 (ml.length + nn + k) x.2, (Value.slice ia il ic), .int .i64 0, .int .i64 0, (Value.slice none 0 0), .int .i64 0, (Value.slice none 0 0), (Value.slice none 0 0)] 100, Ent.box p8 [.int .i64 0, .int .i64 0] 28, Ent.box p7 [.int .i64 0, .int .i64 0, .slice none 0 0, .int .i64 0] 52, Ent.box p3 [(Value.slice ga gn gc), (Value.slice fa fn fc)] 25, Ent.vec x.1 (ml.length + nn + k) x.2 3 1 ((ml.map (.int .i64) ++ G.init.flatMap fun y => [.int .i64 y]) ++ List.replicate k (.int .i64 0))]) mixed (by repeat (first | exact List.Sublist.refl _ | exact List.nil_sublist _ | refine List.Sublist.cons_cons _ ?_)) ?_ fun x _ => ?_
    · skip
      refine h_take 0 rfl (by decide +kernel) (by repeat (first | exact List.Sublist.refl _ | exact List.nil_sublist _ | refine List.Sublist.cons_cons _ ?_)) ?_
      refine h_take 1 rfl (by decide +kernel) (by repeat (first | exact List.Sublist.refl _ | exact List.nil_sublist _ | refine List.Sublist.cons_cons _ ?_)) ?_
      refine h_take 2 rfl (by decide +kernel) (by repeat (first | exact List.Sublist.refl _ | exact List.nil_sublist _ | refine List.Sublist.cons_cons _ ?_)) ?_
      refine h_take 3 rfl (by decide +kernel) (by repeat (first | exact List.Sublist.refl _ | exact List.nil_sublist _ | refine List.Sublist.cons_cons _ ?_)) ?_
      refine h_take 5 rfl (by decide +kernel) (by repeat (first | exact List.Sublist.refl _ | exact List.nil_sublist _ | refine List.Sublist.cons_cons _ ?_)) ?_
      refine h_take 6 rfl (by decide +kernel) (by repeat (first | exact List.Sublist.refl _ | exact List.nil_sublist _ | refine List.Sublist.cons_cons _ ?_)) ?_
      refine h_take 7 rfl (by decide +kernel) (by repeat (first | exact List.Sublist.refl _ | exact List.nil_sublist _ | refine List.Sublist.cons_cons _ ?_)) ?_
      refine h_take 8 rfl (by decide +kernel) (by repeat (first | exact List.Sublist.refl _ | exact List.nil_sublist _ | refine List.Sublist.cons_cons _ ?_)) ?_
      refine h_take 9 rfl (by decide +kernel) (by repeat (first | exact List.Sublist.refl _ | exact List.nil_sublist _ | refine List.Sublist.cons_cons _ ?_)) ?_
      refine h_take (h := runs_sub (by unfold inI at hsz; omega) (by unfold inI at hsz; omega)) 10 rfl (by decide +kernel) (by repeat (first | exact List.Sublist.refl _ | exact List.nil_sublist _ | refine List.Sublist.cons_cons _ ?_)) ?_
      rw [hks]
      refine h_one 4 (by decide +kernel) (o_op 4 rfl (by repeat (first | exact List.Sublist.refl _ | exact List.nil_sublist _ | refine List.Sublist.cons_cons _ ?_)) ?_)
      refine h_one 11 (by decide +kernel) (o_appendZ 11 (kd := .i64) Tryd.underlying3 rfl rfl (by omega) (by omega) (by decide) (fun _ => (by repeat (first | exact List.Sublist.refl _ | exact List.nil_sublist _ | refine List.Sublist.cons_cons _ ?_))) fun a' c' => ?_)
      simp only [List.set_cons_zero, List.set_cons_succ]
      refine h_take 12 rfl (by decide +kernel) (by repeat (first | exact List.Sublist.refl _ | exact List.nil_sublist _ | refine List.Sublist.cons_cons _ ?_)) ?_
      refine h_take 13 rfl (by decide +kernel) (by repeat (first | exact List.Sublist.refl _ | exact List.nil_sublist _ | refine List.Sublist.cons_cons _ ?_)) ?_
      refine h_store 14 (by decide +kernel) (by repeat (first | exact List.Sublist.refl _ | exact List.nil_sublist _ | refine List.Sublist.cons_cons _ ?_)) ?_
      refine h_end (by decide +kernel) ?_
      exact g_mem (a', c') trivial (by repeat (first | exact trivial | refine ⟨rfl, ?_⟩)) (List.sublist_cons_self _ _)
    obtain ⟨a2, c2⟩ := x
    simp only
    rw [hfm]
    have hmt := memL_take hG
    rw [← hml', ← hk, ← List.append_assoc] at hmt
    repeat (first | refine g_then ?_ | refine g_nil ?_ | refine g_region ?_ | refine g_opS rfl ?_ | refine g_inBlock ?_ | refine g_add rfl (by omega) (by omega) ?_)
    rw [show (i : Int) + 1 = ((i + 1 : Nat) : Int) by omega]
    skip
    refine g_next (i + 1, a2, c2) hlt (by simp only; omega) (by repeat (first | exact trivial | refine ⟨rfl, ?_⟩)) ?_
    simp only [hmt, List.map_append, List.map_replicate, List.length_append, List.length_replicate, ← hnn]
    exact List.Sublist.refl _
  have hig : gn = i := by have := h1; simp at this; omega
  subst hig
  rw [show u.globals.take gn = u.globals by rw [hgn, List.take_length]]
  repeat (first | refine g_op rfl ?_ | refine g_then ?_ | refine g_nil ?_ | refine g_region ?_ | refine g_seq ?_ | refine g_block ?_ | refine g_exit ?_ | refine g_thenExit ?_ | refine g_exitHere ?_)
  refine g_nilVecs 56 1 1 ?_
  refine g_nilVecs 38 1 1 ?_
  obtain ⟨ml, hml⟩ : ∃ ml, ml = memL u.globals := ⟨_, rfl⟩
  rw [← hml]
  refine g_loop (fun (x : Nat × (Option Addr × Nat × List TabR) × (Option Addr × Nat × List CRow)) => x.1 ≤ fn ∧ x.2.1.2.2.map (·.l) = (aheadsL u).take x.1 ∧ x.2.2.2.2.map (·.l) = (u.funcs.take x.1).map fun X => List.replicate X.blocks.length 0) (fun x => [(73, .int .i64 x.1), (71, (Value.slice fa fn fc)), (72, .int .i64 fn), (10, .pointer (some ⟨p, 0, none⟩)), (3, .pointer (some ⟨p3, 0, none⟩)), (7, .pointer (some ⟨p7, 0, none⟩)), (8, .pointer (some ⟨p8, 0, none⟩)), (2, .int .i64 fuel)])
    (fun x => Ent.box p [(Value.slice ga gn gc), (Value.slice fa fn fc), .slice x.2.1.1 x.2.1.2.2.length x.2.1.2.1, .slice ma ml.length mc, (Value.slice ia il ic), .int .i64 0, .int .i64 0, (Value.slice none 0 0), .int .i64 0, (Value.slice none 0 0), .slice x.2.2.1 x.2.2.2.2.length x.2.2.2.1] 100 :: Ent.box p8 [.int .i64 0, .int .i64 0] 28 :: Ent.box p7 [.int .i64 0, .int .i64 0, .slice none 0 0, .int .i64 0] 52 :: Ent.box p3 [(Value.slice ga gn gc), (Value.slice fa fn fc)] 25 :: Ent.vec ma ml.length mc 3 1 (ml.map (.int .i64)) :: Ent.vec x.2.1.1 x.2.1.2.2.length x.2.1.2.1 56 1 (x.2.1.2.2.map tabV) :: Ent.vec x.2.2.1 x.2.2.2.2.length x.2.2.2.1 38 1 (x.2.2.2.2.map cnV) :: (x.2.1.2.2.map tabE ++ x.2.2.2.2.map cnE)) (fun x => fn - x.1) (0, (none, 0, []), (none, 0, []))
    ⟨Nat.zero_le _, rfl, rfl⟩ (g_done (by repeat (first | exact trivial | refine ⟨rfl, ?_⟩)) (List.Sublist.refl _)) fun x hi => ?_
  obtain ⟨k, ⟨aa, ac, ts⟩, ⟨ca, cc, cs⟩⟩ := x
  simp only at hi ⊢
  obtain ⟨hk, hts, hcs⟩ := hi
  have hahl : (aheadsL u).length = fn := by simp [aheadsL, hfn]
  have htl : ts.length = k := by have := congrArg List.length hts; rw [List.length_map, List.length_take] at this; omega
  have hcl : cs.length = k := by have := congrArg List.length hcs; rw [List.length_map, List.length_map, List.length_take] at this; omega
  have hf10 := hs.funcs
  repeat (first | refine g_op rfl ?_ | refine g_then ?_ | refine g_nil ?_ | refine g_region ?_ | refine g_seq ?_)
  refine g_cond (fun h1 => ?_) (fun h1 => ?_)
  · have hlt : k < fn := by simpa using h1
    obtain ⟨X, hX⟩ := get_lt hfn hlt
    have hadf : AddrIs fa fb fo := ⟨hfa (ne_of_get hX)⟩
    have hli : LtIs k fn := ⟨hlt⟩
    obtain ⟨fcs, hfcs, bv, rfl, _, _, hbv⟩ := hfel k X hX
    have hcif : CellsIs w0 fb (fo + k * 4) _ := ⟨hfcs⟩
    obtain ⟨ba, bn, bc, _, _, rfl, hbn, _⟩ := hbv
    obtain ⟨R, hfit⟩ := hu.2 k X hX
    have hbl := hfit.few
    repeat (first | refine g_op rfl ?_ | refine g_then ?_ | refine g_nil ?_ | refine g_region ?_ | refine g_seq ?_ | refine g_alloc rfl fun _ _ => ?_ | refine g_storeAgg ?_ | refine g_block ?_ | refine g_skip ?_)
    rename_i p14 _
    refine g_callE (val := fun x : (Option Addr × Nat × Nat) × (Nat → Prop) => .tuple #[.slice x.1.1 x.1.2.1 x.1.2.2, .agg #[.int .i64 0, .int .i64 0]]) (E := fun x => [⟨x.2, fun w => SlAt w (.slice x.1.1 x.1.2.1 x.1.2.2) 1 (aheadL X.blocks) RowV⟩]) (φ := fun _ => True) rfl (fun w hw => tabOf_c u hl h0 k X hX hbl hfit.ok.good _ _ w (hg0.keep keeps_global hw.chg) (hf0.keep keeps_func hw.chg) (hways.keep hw.chg)) fun x _ => ?_
    obtain ⟨⟨ta, tn, tc⟩, tf⟩ := x
    simp only [List.cons_append, List.nil_append]
    repeat (first | refine g_op rfl ?_ | refine g_then ?_ | refine g_nil ?_ | refine g_region ?_ | refine g_seq ?_ | refine g_alloc rfl fun _ _ => ?_ | refine g_storeAgg ?_ | refine g_build1 rfl rfl fun _ _ => ?_)
    rename_i p16 _ q1 _
    refine g_appendAt 9 rfl rfl (by decide +kernel) (by omega) (by omega) fun na nc => ?_
    simp only [List.set_cons_succ, List.set_cons_zero]
    repeat (first | refine g_op rfl ?_ | refine g_then ?_ | refine g_nil ?_ | refine g_store ?_)
    refine g_drawX [Ent.box p14 [.string X.name, .int .i64 X.params, .int .i64 X.regs, .slice ba bn bc] 35] (fun _ : (Option Addr × Nat) × Nat => True) (fun _ => [(73, .int .i64 k), (71, (Value.slice fa fn fc)), (72, .int .i64 fn), (10, .pointer (some ⟨p, 0, none⟩)), (3, .pointer (some ⟨p3, 0, none⟩)), (7, .pointer (some ⟨p7, 0, none⟩)), (8, .pointer (some ⟨p8, 0, none⟩)), (2, .int .i64 fuel)]) (fun x => Ent.vec (some ⟨x.2, 0, none⟩) bn bn 3 1 (List.replicate bn (.int .i64 0)) :: tabE (⟨ta, tn, tc, tf, aheadL X.blocks⟩ : TabR) :: Ent.box p [(Value.slice ga gn gc), (Value.slice fa fn fc), .slice na (ts.length + 1) nc, .slice ma ml.length mc, (Value.slice ia il ic), .int .i64 0, .int .i64 0, (Value.slice none 0 0), .int .i64 0, (Value.slice none 0 0), .slice x.1.1 (cs.length + 1) x.1.2] 100 :: Ent.box p8 [.int .i64 0, .int .i64 0] 28 :: Ent.box p7 [.int .i64 0, .int .i64 0, .slice none 0 0, .int .i64 0] 52 :: Ent.box p3 [(Value.slice ga gn gc), (Value.slice fa fn fc)] 25 :: Ent.vec ma ml.length mc 3 1 (ml.map (.int .i64)) :: Ent.vec na (ts.length + 1) nc 56 1 (ts.map tabV ++ [tabV (⟨ta, tn, tc, tf, aheadL X.blocks⟩ : TabR)]) :: Ent.vec x.1.1 (cs.length + 1) x.1.2 38 1 (cs.map cnV ++ [.slice (some ⟨x.2, 0, none⟩) bn bn]) :: (ts.map tabE ++ cs.map cnE)) mixed (List.Sublist.cons _ (List.Sublist.cons _ (List.Sublist.cons _ (List.Sublist.cons_cons _ (List.nil_sublist _))))) ?_ fun x _ => ?_
    · skip
      refine h_take 0 rfl (by decide +kernel) (List.Sublist.cons _ (List.Sublist.cons _ (List.Sublist.cons _ (List.Sublist.cons_cons _ (List.nil_sublist _))))) ?_
      refine h_take 1 rfl (by decide +kernel) (List.Sublist.cons _ (List.Sublist.cons _ (List.Sublist.cons _ (List.Sublist.cons_cons _ (List.nil_sublist _))))) ?_
      refine h_take 2 rfl (by decide +kernel) (List.Sublist.cons _ (List.Sublist.cons _ (List.Sublist.cons _ (List.Sublist.cons_cons _ (List.nil_sublist _))))) ?_
      refine h_take 3 rfl (by decide +kernel) (List.Sublist.cons _ (List.Sublist.cons _ (List.Sublist.cons _ (List.Sublist.cons_cons _ (List.nil_sublist _))))) ?_
      refine h_take 5 rfl (by decide +kernel) (List.Sublist.cons _ (List.Sublist.cons _ (List.Sublist.cons _ (List.Sublist.cons_cons _ (List.nil_sublist _))))) ?_
      refine h_take 6 rfl (by decide +kernel) (List.Sublist.cons _ (List.Sublist.cons _ (List.Sublist.cons _ (List.Sublist.cons_cons _ (List.nil_sublist _))))) ?_
      refine h_take 7 rfl (by decide +kernel) (List.Sublist.cons _ (List.Sublist.cons _ (List.Sublist.cons _ (List.Sublist.cons_cons _ (List.nil_sublist _))))) ?_
      refine h_two 4 8 (by decide +kernel) ?_ ?_
      · refine o_op 4 rfl (List.Sublist.cons _ (List.Sublist.cons _ (List.Sublist.cons _ (List.Sublist.cons_cons _ (List.nil_sublist _))))) ?_
        refine h_one 8 (by decide +kernel) (o_make 8 (n := bn) rfl (by omega) (by omega) (List.Sublist.cons _ (List.Sublist.cons _ (List.Sublist.cons _ (List.Sublist.cons_cons _ (List.nil_sublist _))))) fun q2 _ => ?_)
        refine h_one 9 (by decide +kernel) (o_build1 9 rfl (by decide +kernel) (List.Sublist.cons _ (List.Sublist.cons _ (List.Sublist.cons _ (List.Sublist.cons _ (List.Sublist.cons_cons _ (List.nil_sublist _)))))) fun q3 _ => ?_)
        refine h_append 10 12 rfl rfl (by decide +kernel) (by omega) (by omega) (by decide +kernel) (fun _ => (List.Sublist.cons _ (List.Sublist.cons _ (List.Sublist.cons _ (List.Sublist.cons _ (List.Sublist.cons _ (List.Sublist.cons_cons _ (List.nil_sublist _)))))))) fun nd ne => ?_
        simp only [List.set_cons_succ, List.set_cons_zero]
        refine h_take 11 rfl (by decide +kernel) (List.Sublist.cons _ (List.Sublist.cons _ (List.Sublist.cons _ (List.Sublist.cons _ (List.Sublist.cons _ (List.Sublist.cons_cons _ (List.nil_sublist _))))))) ?_
        refine h_take 12 rfl (by decide +kernel) (List.Sublist.cons _ (List.Sublist.cons _ (List.Sublist.cons _ (List.Sublist.cons _ (List.Sublist.cons _ (List.Sublist.cons_cons _ (List.nil_sublist _))))))) ?_
        refine h_store 13 (by decide +kernel) (List.Sublist.cons _ (List.Sublist.cons _ (List.Sublist.cons _ (List.Sublist.cons _ (List.Sublist.cons _ (List.Sublist.cons_cons _ (List.nil_sublist _))))))) ?_
        refine h_end (by decide +kernel) ?_
        exact g_mem ((nd, ne), q2) trivial (by repeat (first | exact trivial | refine ⟨rfl, ?_⟩)) (by repeat (first | exact List.Sublist.refl _ | refine List.Sublist.cons_cons _ ?_ | refine List.Sublist.cons _ ?_))
      · refine o_make 8 (n := bn) rfl (by omega) (by omega) (List.Sublist.cons _ (List.Sublist.cons _ (List.Sublist.cons _ (List.Sublist.cons_cons _ (List.nil_sublist _))))) fun q2 _ => ?_
        refine h_two 4 9 (by decide +kernel) ?_ ?_
        · refine o_op 4 rfl (List.Sublist.cons _ (List.Sublist.cons _ (List.Sublist.cons _ (List.Sublist.cons _ (List.Sublist.cons_cons _ (List.nil_sublist _)))))) ?_
          refine h_one 9 (by decide +kernel) (o_build1 9 rfl (by decide +kernel) (List.Sublist.cons _ (List.Sublist.cons _ (List.Sublist.cons _ (List.Sublist.cons _ (List.Sublist.cons_cons _ (List.nil_sublist _)))))) fun q3 _ => ?_)
          refine h_append 10 12 rfl rfl (by decide +kernel) (by omega) (by omega) (by decide +kernel) (fun _ => (List.Sublist.cons _ (List.Sublist.cons _ (List.Sublist.cons _ (List.Sublist.cons _ (List.Sublist.cons _ (List.Sublist.cons_cons _ (List.nil_sublist _)))))))) fun nd ne => ?_
          simp only [List.set_cons_succ, List.set_cons_zero]
          refine h_take 11 rfl (by decide +kernel) (List.Sublist.cons _ (List.Sublist.cons _ (List.Sublist.cons _ (List.Sublist.cons _ (List.Sublist.cons _ (List.Sublist.cons_cons _ (List.nil_sublist _))))))) ?_
          refine h_take 12 rfl (by decide +kernel) (List.Sublist.cons _ (List.Sublist.cons _ (List.Sublist.cons _ (List.Sublist.cons _ (List.Sublist.cons _ (List.Sublist.cons_cons _ (List.nil_sublist _))))))) ?_
          refine h_store 13 (by decide +kernel) (List.Sublist.cons _ (List.Sublist.cons _ (List.Sublist.cons _ (List.Sublist.cons _ (List.Sublist.cons _ (List.Sublist.cons_cons _ (List.nil_sublist _))))))) ?_
          refine h_end (by decide +kernel) ?_
          exact g_mem ((nd, ne), q2) trivial (by repeat (first | exact trivial | refine ⟨rfl, ?_⟩)) (by repeat (first | exact List.Sublist.refl _ | refine List.Sublist.cons_cons _ ?_ | refine List.Sublist.cons _ ?_))
        · refine o_build1 9 rfl (by decide +kernel) (List.Sublist.cons _ (List.Sublist.cons _ (List.Sublist.cons _ (List.Sublist.cons _ (List.Sublist.cons_cons _ (List.nil_sublist _)))))) fun q3 _ => ?_
          refine h_one 4 (by decide +kernel) (o_op 4 rfl (List.Sublist.cons _ (List.Sublist.cons _ (List.Sublist.cons _ (List.Sublist.cons _ (List.Sublist.cons _ (List.Sublist.cons_cons _ (List.nil_sublist _))))))) ?_)
          refine h_append 10 12 rfl rfl (by decide +kernel) (by omega) (by omega) (by decide +kernel) (fun _ => (List.Sublist.cons _ (List.Sublist.cons _ (List.Sublist.cons _ (List.Sublist.cons _ (List.Sublist.cons _ (List.Sublist.cons_cons _ (List.nil_sublist _)))))))) fun nd ne => ?_
          simp only [List.set_cons_succ, List.set_cons_zero]
          refine h_take 11 rfl (by decide +kernel) (List.Sublist.cons _ (List.Sublist.cons _ (List.Sublist.cons _ (List.Sublist.cons _ (List.Sublist.cons _ (List.Sublist.cons_cons _ (List.nil_sublist _))))))) ?_
          refine h_take 12 rfl (by decide +kernel) (List.Sublist.cons _ (List.Sublist.cons _ (List.Sublist.cons _ (List.Sublist.cons _ (List.Sublist.cons _ (List.Sublist.cons_cons _ (List.nil_sublist _))))))) ?_
          refine h_store 13 (by decide +kernel) (List.Sublist.cons _ (List.Sublist.cons _ (List.Sublist.cons _ (List.Sublist.cons _ (List.Sublist.cons _ (List.Sublist.cons_cons _ (List.nil_sublist _))))))) ?_
          refine h_end (by decide +kernel) ?_
          exact g_mem ((nd, ne), q2) trivial (by repeat (first | exact trivial | refine ⟨rfl, ?_⟩)) (by repeat (first | exact List.Sublist.refl _ | refine List.Sublist.cons_cons _ ?_ | refine List.Sublist.cons _ ?_))
    obtain ⟨⟨nd, ne⟩, q2⟩ := x
    simp only
    repeat (first | refine g_then ?_ | refine g_nil ?_ | refine g_region ?_ | refine g_opS rfl ?_ | refine g_inBlock ?_ | refine g_add rfl (by omega) (by omega) ?_)
    rw [show (k : Int) + 1 = ((k + 1 : Nat) : Int) by omega]
    have hXl : u.funcs.take (k + 1) = u.funcs.take k ++ [X] := by rw [List.take_add_one, hX]; rfl
    have hAl : (aheadsL u).take (k + 1) = (aheadsL u).take k ++ [aheadL X.blocks] := by rw [List.take_add_one]; simp only [aheadsL, List.getElem?_map, hX]; rfl
    refine g_permH (perm_row _ _ _ _ _ _ _ _ _ (ts.map tabE) (cs.map cnE)) ?_
    refine g_next (k + 1, (na, nc, ts ++ [(⟨ta, tn, tc, tf, aheadL X.blocks⟩ : TabR)]), (nd, ne, cs ++ [⟨some ⟨q2, 0, none⟩, bn, List.replicate X.blocks.length 0⟩])) ⟨hlt, by simp only [List.map_append, List.map_cons, List.map_nil, hts, hAl], by simp only [List.map_append, List.map_cons, List.map_nil, hcs, hXl]⟩ (by simp only; omega) (by repeat (first | exact trivial | refine ⟨rfl, ?_⟩)) ?_
    subst hbn
    simp only [List.map_append, List.map_cons, List.map_nil, List.length_append, List.length_singleton, cnV, cnE, List.length_replicate, List.map_replicate]
    exact List.Sublist.refl _
  have hkf : fn = k := by have := h1; simp at this; omega
  subst hkf
  rw [List.take_of_length_le (by omega)] at hts
  rw [List.take_of_length_le (by omega)] at hcs
  obtain ⟨fm, M, hmain, hM⟩ := hs.main
  obtain ⟨R, hfitM⟩ := hu.2 fm M hM
  repeat (first | refine g_op rfl ?_ | refine g_then ?_ | refine g_region ?_ | refine g_seq ?_ | refine g_exit ?_ | refine g_thenExit ?_ | refine g_exitHere ?_)
  refine g_callV rfl (fun w hw => mainF_c _ u.funcs w (hf0.keep keeps_func hw.chg)) ?_
  rw [hmain]
  refine g_nilVecs 131 5 1 ?_
  refine g_nilVecs 3 1 1 ?_
  obtain ⟨m0, hm0⟩ : ∃ m0 : MacV, m0 = ⟨ma, mc, ml, (Value.slice ia il ic), inp, 0, 0, none, 0, [], 0, none, 0, [], ca, cc, cs⟩ := ⟨_, rfl⟩
  refine g_permH (H1 := macL p (Value.slice ga gn gc) (Value.slice fa fn fc) (Value.slice aa ts.length ac) m0 ++ (Ent.vec aa ts.length ac 56 1 (ts.map tabV) :: (ts.map tabE ++ [Ent.box p8 [.int .i64 0, .int .i64 0] 28, Ent.box p7 [.int .i64 0, .int .i64 0, .slice none 0 0, .int .i64 0] 52, Ent.box p3 [(Value.slice ga gn gc), (Value.slice fa fn fc)] 25]))) (by rw [hm0]; exact perm_start _ _ _ _ _ _ _ _ _ (ts.map tabE) (cs.map cnE)) ?_
  have hcsl : ∀ r ∈ cs, ∃ X ∈ u.funcs, r.l = List.replicate X.blocks.length 0 := fun r hr => by
    have h9 : r.l ∈ cs.map (·.l) := List.mem_map.2 ⟨r, hr, rfl⟩
    rw [hcs] at h9
    obtain ⟨X, hX, e⟩ := List.mem_map.1 h9
    exact ⟨X, hX, e.symm⟩
  have hb0 : m0.Bd := by
    have h8 := memL_len hs.glob
    have h9 := hs.globs
    rw [hm0, hml]
    refine ⟨by simp, by simp, ⟨by simp only; omega, memL_in hs.init⟩, by simp, by simp only; omega, fun r hr => ?_, by simp⟩
    obtain ⟨X, hX, e⟩ := hcsl r hr
    obtain ⟨k, hk⟩ := List.getElem?_of_mem hX
    obtain ⟨_, hfit⟩ := hu.2 k X hk
    have := hfit.few
    exact ⟨by rw [e]; simp; omega, fun x hx => by rw [e] at hx; rw [List.eq_of_mem_replicate hx]; omega⟩
  obtain ⟨cr, hcr, hcrl⟩ : ∃ cr, cs[fm]? = some cr ∧ cr.l = List.replicate M.blocks.length 0 := by
    have h9 : (cs.map (·.l))[fm]? = some (List.replicate M.blocks.length 0) := by rw [hcs, List.getElem?_map, hM]; rfl
    rw [List.getElem?_map] at h9
    exact Option.map_eq_some_iff.1 h9
  refine g_callC (H1 := macL p (Value.slice ga gn gc) (Value.slice fa fn fc) (Value.slice aa ts.length ac) m0) (val := fun _ : Option Addr × Nat × Option Addr × Nat => .tuple #[]) (E := fun x => macL p (Value.slice ga gn gc) (Value.slice fa fn fc) (Value.slice aa ts.length ac) { m0 with fa := x.1, fc := x.2.1, rows := m0.rows ++ [⟨⟨fm, 0, 0, enterR R [], -1⟩, x.2.2.1, x.2.2.2⟩], cs := bumpC m0.cs fm 0 }) (φ := fun _ => True) (clean_no w0) rfl (fun wz' w hcl' hle _ hw => enter_c hcl' u p _ _ _ (hf0.le mono_func hle) m0 hb0 fm M hM R hfitM.regs hfitM.le (-1) [] none 0 0 ⟨none, 0, 0, 0, 0, rfl, rfl, Nat.le_refl _, by omega, by omega, fun h => absurd rfl h, by simp⟩ (Nat.zero_le _) cr (by rw [hm0]; exact hcr) (by rw [hcrl, List.length_replicate]; exact hfitM.pos) w hw) fun x _ => ?_
  obtain ⟨na, nc, nb, nd⟩ := x
  obtain ⟨m1, hm1⟩ : ∃ m1 : MacV, m1 = { m0 with fa := na, fc := nc, rows := m0.rows ++ [⟨⟨fm, 0, 0, enterR R [], -1⟩, nb, nd⟩], cs := bumpC m0.cs fm 0 } := ⟨_, rfl⟩
  simp only
  rw [← hm1]
  have hr1 : ∃ rest t, Rep m1 (startM u inp) rest t := by
    rw [start_eq hmain hM hfitM.regs, hm1, hm0]
    exact ⟨[], ⟨⟨fm, 0, 0, enterR R [], -1⟩, nb, nd⟩, rfl, rfl, rfl, hml, rfl, rfl, rfl, by simp only [bumpC_l, hcs], rfl, rfl⟩
  have hini : ∀ x ∈ inp, inI x := fun x hx => by
    obtain ⟨k, hk⟩ := List.getElem?_of_mem hx
    obtain ⟨_, _, _, h9⟩ := hiel k x hk
    exact h9
  have hiv1 : SlAt w0 m1.iv 1 m1.inp IntV := by rw [hm1, hm0]; exact hin0
  repeat (first | refine g_then ?_ | refine g_nil ?_ | refine g_seq ?_)
  refine g_midX (fun m : MacV => FinRep m (resultM u inp fuel)) (fun _ => [(10, .pointer (some ⟨p, 0, none⟩)), (3, .pointer (some ⟨p3, 0, none⟩)), (7, .pointer (some ⟨p7, 0, none⟩)), (8, .pointer (some ⟨p8, 0, none⟩)), (2, .int .i64 fuel)]) (fun m => macL p (Value.slice ga gn gc) (Value.slice fa fn fc) (Value.slice aa ts.length ac) m ++ (Ent.vec aa ts.length ac 56 1 (ts.map tabV) :: (ts.map tabE ++ [Ent.box p8 [.int .i64 0, .int .i64 0] 28, Ent.box p7 [.int .i64 0, .int .i64 0, .slice none 0 0, .int .i64 0] 52, Ent.box p3 [(Value.slice ga gn gc), (Value.slice fa fn fc)] 25]))) ?_ fun m hm => ?_
  · repeat (refine g_block ?_)
    refine g_loop (fun x : MacV × Mac => (∃ rest t, Rep x.1 x.2 rest t) ∧ MacOk u (x.2.steps + 1) x.2 ∧ x.2.steps ≤ fuel ∧ SlAt w0 x.1.iv 1 x.1.inp IntV ∧ runM u (fuel - x.2.steps) x.2 = resultM u inp fuel) (fun _ => [(10, .pointer (some ⟨p, 0, none⟩)), (3, .pointer (some ⟨p3, 0, none⟩)), (7, .pointer (some ⟨p7, 0, none⟩)), (8, .pointer (some ⟨p8, 0, none⟩)), (2, .int .i64 fuel)]) (fun x => macL p (Value.slice ga gn gc) (Value.slice fa fn fc) (Value.slice aa ts.length ac) x.1 ++ (Ent.vec aa ts.length ac 56 1 (ts.map tabV) :: (ts.map tabE ++ [Ent.box p8 [.int .i64 0, .int .i64 0] 28, Ent.box p7 [.int .i64 0, .int .i64 0, .slice none 0 0, .int .i64 0] 52, Ent.box p3 [(Value.slice ga gn gc), (Value.slice fa fn fc)] 25]))) (fun x => fuel - x.2.steps) (m1, startM u inp) ⟨hr1, start_ok hu hs hini, Nat.zero_le _, hiv1, rfl⟩ (g_done (by repeat (first | exact trivial | refine ⟨rfl, ?_⟩)) (List.Sublist.refl _)) fun x hx => ?_
    obtain ⟨m, s⟩ := x
    obtain ⟨⟨rest, t, hr⟩, hok, hsf, hiv, hrun⟩ := hx
    simp only at hr hok hsf hiv hrun ⊢
    refine g_eqH (H1 := Ent.box p [(Value.slice ga gn gc), (Value.slice fa fn fc), (Value.slice aa ts.length ac), .slice m.ma m.mem.length m.mc, m.iv, .int .i64 m.state, .int .i64 m.value, .slice m.oa m.out.length m.oc, .int .i64 m.steps, .slice m.fa m.rows.length m.fc, .slice m.ca m.cs.length m.cc] 100 :: ((frsE m :: memE m :: outE m :: cnsE m :: (m.rows.map frE ++ m.cs.map cnE)) ++ (Ent.vec aa ts.length ac 56 1 (ts.map tabV) :: (ts.map tabE ++ [Ent.box p8 [.int .i64 0, .int .i64 0] 28, Ent.box p7 [.int .i64 0, .int .i64 0, .slice none 0 0, .int .i64 0] 52, Ent.box p3 [(Value.slice ga gn gc), (Value.slice fa fn fc)] 25])))) rfl ?_
    repeat (first | refine g_op rfl ?_ | refine g_then ?_ | refine g_nil ?_ | refine g_region ?_ | refine g_seq ?_ | refine g_block ?_)
    have hms := hr.steps
    have hz := hr.zero
    refine Or.elim (Classical.em (s.steps = fuel)) (fun he => ?_) (fun he => ?_)
    · rw [show decide ((m.steps : Int) = (fuel : Int)) = true by simp; omega]
      repeat (first | refine g_op rfl ?_ | refine g_region ?_ | refine g_seq ?_ | refine g_condT ?_)
      refine g_eqH (H1 := macL p (Value.slice ga gn gc) (Value.slice fa fn fc) (Value.slice aa ts.length ac) m ++ (Ent.vec aa ts.length ac 56 1 (ts.map tabV) :: (ts.map tabE ++ [Ent.box p8 [.int .i64 0, .int .i64 0] 28, Ent.box p7 [.int .i64 0, .int .i64 0, .slice none 0 0, .int .i64 0] 52, Ent.box p3 [(Value.slice ga gn gc), (Value.slice fa fn fc)] 25]))) rfl ?_
      refine g_callC (H1 := macL p (Value.slice ga gn gc) (Value.slice fa fn fc) (Value.slice aa ts.length ac) m) (val := fun _ : Unit => .bool false) (E := fun _ => macL p (Value.slice ga gn gc) (Value.slice fa fn fc) (Value.slice aa ts.length ac) { m with state := 1 }) (φ := fun _ => True) (clean_no w0) rfl (fun wz' w _ _ _ hw => wstop_c p _ _ _ m 1 w hw) fun _ _ => ?_
      repeat (first | refine g_then ?_ | refine g_nil ?_ | refine g_exit ?_ | refine g_thenExit ?_ | refine g_exitHere ?_ | refine g_exitOn rfl ?_)
      refine g_mem { m with state := 1 } ?_ (by repeat (first | exact trivial | refine ⟨rfl, ?_⟩)) (List.Sublist.refl _)
      rw [← hrun, he, Nat.sub_self]
      exact ⟨rfl, hz.2, hr.out, hr.steps, hr.cnt⟩
    · rw [show decide ((m.steps : Int) = (fuel : Int)) = false by simp; omega]
      repeat (first | refine g_op rfl ?_ | refine g_then ?_ | refine g_region ?_ | refine g_seq ?_ | refine g_skip ?_ | refine g_condF ?_)
      refine g_eqH (H1 := macL p (Value.slice ga gn gc) (Value.slice fa fn fc) (Value.slice aa ts.length ac) m ++ (Ent.vec aa ts.length ac 56 1 (ts.map tabV) :: (ts.map tabE ++ [Ent.box p8 [.int .i64 0, .int .i64 0] 28, Ent.box p7 [.int .i64 0, .int .i64 0, .slice none 0 0, .int .i64 0] 52, Ent.box p3 [(Value.slice ga gn gc), (Value.slice fa fn fc)] 25]))) rfl ?_
      refine g_callC (H1 := macL p (Value.slice ga gn gc) (Value.slice fa fn fc) (Value.slice aa ts.length ac) m) (val := fun y : MacV × Bool => .bool y.2) (E := fun y => macL p (Value.slice ga gn gc) (Value.slice fa fn fc) (Value.slice aa ts.length ac) y.1) (φ := fun y => After m (stepM u s) y) (clean_no w0) rfl (fun wz' w hcl' hle hwd hw => wstep_c hcl' u hu p _ _ _ (hf0.le mono_func hle) (by have h9 := tabs_sl hwd rfl (by omega); rw [hts] at h9; exact h9) m s rest t hr hok (by omega) (hiv.le mono_int hle) w hw) fun y hy => ?_
      obtain ⟨m', b⟩ := y
      obtain ⟨hvs, hst⟩ := hy
      simp only at hvs hst ⊢
      have hfs : fuel - s.steps = (fuel - (s.steps + 1)) + 1 := by omega
      rw [hfs, runM] at hrun
      cases he2 : stepM u s with
      | inl s' =>
        rw [he2] at hst hrun
        simp only at hst hrun
        obtain ⟨rfl, hr'⟩ := hst
        obtain ⟨hok', hss⟩ := step_ok hu hok he2
        repeat (first | refine g_op rfl ?_ | refine g_then ?_ | refine g_nil ?_ | refine g_inBlock ?_ | refine g_skip ?_ | refine g_condF ?_)
        refine g_next (m', s') ⟨hr', hok', by simp only; omega, hvs.sl hiv, by simp only; rw [hss]; exact hrun⟩ (by simp only; omega) (by repeat (first | exact trivial | refine ⟨rfl, ?_⟩)) (List.Sublist.refl _)
      | inr f =>
        rw [he2] at hst hrun
        simp only at hst hrun
        obtain ⟨rfl, hr'⟩ := hst
        repeat (first | refine g_op rfl ?_ | refine g_then ?_ | refine g_nil ?_ | refine g_condT ?_ | refine g_exit ?_ | refine g_thenExit ?_ | refine g_exitHere ?_ | refine g_exitOn rfl ?_)
        exact g_mem m' (by rw [← hrun]; exact hr') (by repeat (first | exact trivial | refine ⟨rfl, ?_⟩)) (List.Sublist.refl _)
  refine g_permH (H1 := Ent.box p [(Value.slice ga gn gc), (Value.slice fa fn fc), (Value.slice aa ts.length ac), .slice m.ma m.mem.length m.mc, m.iv, .int .i64 m.state, .int .i64 m.value, .slice m.oa m.out.length m.oc, .int .i64 m.steps, .slice m.fa m.rows.length m.fc, .slice m.ca m.cs.length m.cc] 100 :: Ent.box p8 [.int .i64 0, .int .i64 0] 28 :: Ent.box p7 [.int .i64 0, .int .i64 0, .slice none 0 0, .int .i64 0] 52 :: outE m :: cnsE m :: (m.cs.map cnE ++ (frsE m :: memE m :: Ent.vec aa ts.length ac 56 1 (ts.map tabV) :: Ent.box p3 [(Value.slice ga gn gc), (Value.slice fa fn fc)] 25 :: (m.rows.map frE ++ ts.map tabE)))) (perm_last _ _ _ _ _ _ _ _ _ (m.rows.map frE) (ts.map tabE) (m.cs.map cnE)) ?_
  refine g_fix (L' := [(10, .pointer (some ⟨p, 0, none⟩)), (3, .pointer (some ⟨p3, 0, none⟩)), (7, .pointer (some ⟨p7, 0, none⟩)), (8, .pointer (some ⟨p8, 0, none⟩)), (2, .int .i64 fuel)]) (H' := Ent.box p [(Value.slice ga gn gc), (Value.slice fa fn fc), (Value.slice aa ts.length ac), .slice m.ma m.mem.length m.mc, m.iv, .int .i64 m.state, .int .i64 m.value, .slice m.oa m.out.length m.oc, .int .i64 m.steps, .slice m.fa m.rows.length m.fc, .slice m.ca m.cs.length m.cc] 100 :: Ent.box p8 [.int .i64 0, .int .i64 0] 28 :: Ent.box p7 [.int .i64 0, .int .i64 0, .slice none 0 0, .int .i64 0] 52 :: outE m :: cnsE m :: m.cs.map cnE) (by repeat (first | exact trivial | refine ⟨rfl, ?_⟩)) (List.Sublist.cons_cons _ (List.Sublist.cons_cons _ (List.Sublist.cons_cons _ (List.Sublist.cons_cons _ (List.Sublist.cons_cons _ (List.sublist_append_left _ _)))))) ?_
  repeat (refine g_seq ?_)
  refine g_drawX [Ent.box p [(Value.slice ga gn gc), (Value.slice fa fn fc), (Value.slice aa ts.length ac), .slice m.ma m.mem.length m.mc, m.iv, .int .i64 m.state, .int .i64 m.value, .slice m.oa m.out.length m.oc, .int .i64 m.steps, .slice m.fa m.rows.length m.fc, .slice m.ca m.cs.length m.cc] 100] (fun _ : Unit => True) (fun _ => [(6, .slice m.ca m.cs.length m.cc), (7, .pointer (some ⟨p7, 0, none⟩)), (8, .pointer (some ⟨p8, 0, none⟩))]) (fun _ => Ent.box p8 [.int .i64 0, .int .i64 0] 28 :: Ent.box p7 [.int .i64 m.state, .int .i64 m.value, .slice m.oa m.out.length m.oc, .int .i64 m.steps] 52 :: outE m :: cnsE m :: m.cs.map cnE) mixed (List.Sublist.cons_cons _ (List.nil_sublist _)) ?_ fun _ _ => ?_
  · skip
    refine h_take 0 rfl (by decide +kernel) (List.Sublist.cons_cons _ (List.nil_sublist _)) ?_
    refine h_take 1 rfl (by decide +kernel) (List.Sublist.cons_cons _ (List.nil_sublist _)) ?_
    refine h_take 2 rfl (by decide +kernel) (List.Sublist.cons_cons _ (List.nil_sublist _)) ?_
    refine h_take 3 rfl (by decide +kernel) (List.Sublist.cons_cons _ (List.nil_sublist _)) ?_
    refine h_take 4 rfl (by decide +kernel) (List.Sublist.cons_cons _ (List.nil_sublist _)) ?_
    refine h_take 5 rfl (by decide +kernel) (List.Sublist.cons_cons _ (List.nil_sublist _)) ?_
    refine h_take 6 rfl (by decide +kernel) (List.Sublist.cons_cons _ (List.nil_sublist _)) ?_
    refine h_take 7 rfl (by decide +kernel) (List.Sublist.cons_cons _ (List.nil_sublist _)) ?_
    refine h_take 8 rfl (by decide +kernel) (List.Sublist.cons_cons _ (List.nil_sublist _)) ?_
    refine h_take 9 rfl (by decide +kernel) (List.Sublist.cons_cons _ (List.nil_sublist _)) ?_
    refine h_storeAgg 10 (by decide +kernel) (List.Sublist.cons_cons _ (List.nil_sublist _)) ?_
    refine h_storeAgg 11 (by decide +kernel) (List.Sublist.cons_cons _ (List.nil_sublist _)) ?_
    refine h_end (by decide +kernel) ?_
    exact g_mem () trivial (by repeat (first | exact trivial | refine ⟨rfl, ?_⟩)) (List.sublist_cons_self _ _)
  repeat (first | refine g_then ?_ | refine g_ret ?_)
  exact g_retTCC rfl fun w' hw' => ⟨m, rfl, hw'.sub (List.Sublist.cons _ (List.Sublist.cons _ (List.Sublist.refl _))), hm⟩
end Go.Proofs.YtbmnkjaelfjlhaaDoor

