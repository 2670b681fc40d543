/- Texts joined: LiveK LiveN. -/
import Derived.Test.YtebajiafdkokjaaDoorPlF
/- The laws LiveIns and LiveOuts, walked. -/
namespace Go.Proofs.YtebajiafdkokjaaDoor
open Go Go.RowKit
attribute [local irreducible] wpListIn Code.wpIn Exit.then Exit.inBlock bodyPost wpQuiet wpAnyIn wpAnyH
set_option maxHeartbeats 4000000

/-- a sum that fits -/
class AddOk (m n : Int) : Prop where
  lo : -9223372036854775808 ≤ m + n
  hi : m + n ≤ 9223372036854775807
instance {P : Program} {N : Nat} {ds : List Deferred} {S : Nat → Prop} {w0 : World} {L : List (Nat × Value)} {H : List Ent} {x y : Operand} {T T2 : Nat} {m n : Int} [hx : Ev L x (.int .i64 m)] [hy : Ev L y (.int .i64 n)] [h : AddOk m n] : RunsC P N ds S w0 L H (.binOp .add T x y T2) (.int .i64 (m + n)) := by
  have := runs_addW (P := P) (N := N) (ds := ds) (S := S) (w0 := w0) (L := L) (H := H) (x := x) (y := y) (T := T) (T2 := T2) (m := m) (n := n)
  rwa [wrap_in _ h.lo h.hi] at this
theorem ints_same (a b : Value) (l : List Int) (w0 : World) (ha : SlAt w0 a 1 l IntV) (hb : SlAt w0 b 1 l IntV) : RetV Tryd.prog 22 [a, b] w0 (.bool true) := by
  have := ints_c a b l l w0 ha hb
  rwa [decide_eq_true rfl] at this
theorem rowI_sl {S : Nat → Prop} {w0 w : World} {rs : List Row} {i : Nat} {r : Row} (h : Wd S w0 (rs.map entR) w) (hr : rs[i]? = some r) (hb : r.l.length ≤ 1000 ∧ ∀ x ∈ r.l, inI x) : SlAt w (.slice r.a r.l.length r.c) 1 r.l IntV := by
  refine h.slAt (k := i) (e := 3) (xs := r.l.map (.int .i64)) (by rw [List.getElem?_map, hr]; rfl) rfl (by omega) fun j y hy => ⟨[.int .i64 y], fun q v hq => ?_, rfl, hb.2 y (List.mem_of_getElem? hy)⟩
  match q, hq with
  | 0, hq => simpa [hy] using hq
theorem intsL_bd {bl : List LBlock} {R : Nat} {s : Sp} (hR : R ≤ 100) : (intsL (liveN bl R s)).length ≤ 1000 ∧ ∀ x ∈ intsL (liveN bl R s), inI x := by
  have := liveN_len (bl := bl) (R := R) (s := s)
  refine ⟨by simp [intsL]; omega, fun x hx => ?_⟩
  obtain ⟨y, hy, rfl⟩ := List.mem_map.1 hx
  have := liveN_lt hy
  simp only [inI]
  omega
theorem inG_get {bl : List LBlock} {R b : Nat} (hb : b < bl.length) : (inG bl R)[b]? = some (intsL (liveN bl R (b, -1))) := by
  unfold inG
  rw [List.getElem?_map, List.getElem?_range hb]; rfl
theorem outG_get {bl : List LBlock} {R b : Nat} {B : LBlock} (hB : bl[b]? = some B) : (outG bl R)[b]? = some (intsL (liveN bl R (b, (B.list.length : Int) + 1))) := by
  unfold outG
  rw [List.getElem?_map, List.getElem?_range (List.getElem?_eq_some_iff.1 hB).1]
  simp only [Option.map_some, hB, Option.getD_some]
theorem insLaw_c (u : LUnit) (k : Int) (hk : inI k) (g fs : Value) (w0 : World) (hg : SlAt w0 g 3 u.globals GlobalV) (hf : SlAt w0 fs 4 u.funcs FuncV) (hways : CellsAt w0 0 0 waysC) :
    RetV Tryd.prog 9 [.agg #[g, fs], .int .i64 k] w0 (.bool true) := by
  classical
  have hg0 := hg
  have hf0 := hf
  obtain ⟨ga, gn, gc, gb, go, rfl, _⟩ := hg
  obtain ⟨fa, fn, fc, fb, fo, rfl, hfn, hfnc, hfnb, hfc, hfa, hfel⟩ := hf
  refine ret_enter Tryd.func9 rfl Tryd.ntmps9 rfl (Wd.nil NoS w0) ?_
  repeat (first | refine g_op rfl ?_ | refine g_then ?_ | refine g_nil ?_ | refine g_region ?_ | refine g_seq ?_ | refine g_box rfl fun _ _ => ?_)
  rename_i p2 _
  refine g_callE (val := fun b : Bool => .bool b) (E := fun _ => []) (φ := fun b => b = false → light u) rfl (fun w hw => heavy_c u _ _ w (hf0.keep keeps_func hw.chg) ⟨_, _, _, rfl⟩) fun b hb => ?_
  simp only [List.nil_append]
  cases b
  case true =>
    repeat (first | refine g_then ?_ | refine g_nil ?_ | refine g_region ?_ | refine g_seq ?_ | refine g_opS rfl ?_ | refine g_condT ?_ | refine g_ret ?_ | refine g_thenRet ?_)
    exact g_retV rfl rfl
  have hl := hb rfl
  repeat (first | refine g_op rfl ?_ | refine g_then ?_ | refine g_nil ?_ | refine g_region ?_ | refine g_seq ?_ | refine g_skip ?_ | refine g_condF ?_)
  by_cases hbad : (askedL u k).1 ≠ 0
  · refine g_callV rfl (fun w hw => in_bad u hl k hk hbad _ _ w (hg0.keep keeps_global hw.chg) (hf0.keep keeps_func hw.chg) (hways.keep hw.chg)) ?_
    repeat (first | refine g_op rfl ?_ | refine g_then ?_ | refine g_nil ?_ | refine g_region ?_ | refine g_seq ?_ | refine g_alloc rfl fun _ _ => ?_ | refine g_storeAgg ?_)
    refine g_callV rfl (fun w hw => asked_c u hl k _ _ w (hg0.keep keeps_global hw.chg) (hf0.keep keeps_func hw.chg) (hways.keep hw.chg)) ?_
    repeat (first | refine g_op rfl ?_ | refine g_then ?_ | refine g_nil ?_ | refine g_region ?_ | refine g_seq ?_ | refine g_alloc rfl fun _ _ => ?_ | refine g_storeAgg ?_)
    refine g_cond (fun h1 => ?_) (fun h1 => ?_)
    · repeat (first | refine g_op rfl ?_ | refine g_region ?_ | refine g_seq ?_)
      rw [show (decide ((askedL u k).1 = (askedL u k).1) && decide ((askedL u k).2 = (askedL u k).2)) = true by simp]
      repeat (first | refine g_op rfl ?_ | refine g_then ?_ | refine g_nil ?_ | refine g_opS rfl ?_ | refine g_open ?_ | refine g_ret ?_ | refine g_thenRet ?_)
      exact g_retV rfl rfl
    · exact absurd h1 (by simp [hbad])
  have hgood : (askedL u k).1 = 0 := by simpa using hbad
  obtain ⟨hch, has, i, X, rfl, hX, hok⟩ := asked_ok hgood
  have hpos := check_pos hch hX
  have hil : i < fn := by rw [hfn]; exact (List.getElem?_eq_some_iff.1 hX).1
  have had : AddrIs fa fb fo := ⟨hfa (ne_of_get hX)⟩
  have hli : LtIs i fn := ⟨hil⟩
  obtain ⟨cs, hcs, bv, rfl, hpi, hri, hbv⟩ := hfel i X hX
  have hci : CellsIs w0 fb (fo + i * 4) _ := ⟨hcs⟩
  have hbv0 := hbv
  obtain ⟨ba, bn, bc, _, _, rfl, hbn, _⟩ := hbv
  have h24 := (hl.2 X (List.mem_of_getElem? hX)).1
  obtain ⟨R, hXR, hR, hFO⟩ := check_func hch hX
  have hlens := light_lens (hl.2 X (List.mem_of_getElem? hX))
  have hargs := check_args hch hX
  have hRN : X.regs.toNat = R := by omega
  rw [hXR] at hci
  subst hbn
  generalize hnn : X.blocks.length = n at *
  refine g_callE (val := fun x : Option Addr × Nat × List Row => .tuple #[.slice x.1 n x.2.1, .agg #[.int .i64 0, .int .i64 0]]) (E := fun x => Ent.vec x.1 n x.2.1 27 1 (x.2.2.map valR) :: x.2.2.map entR) (φ := fun x => x.2.2.map (·.l) = inG X.blocks R) rfl (fun w hw => by
    have := in_ok u hl i hgood X hX hch _ _ w (hg0.keep keeps_global hw.chg) (hf0.keep keeps_func hw.chg) (hways.keep hw.chg)
    rw [hRN, hnn] at this
    exact this) fun x hx => ?_
  obtain ⟨xa, xc, rs⟩ := x
  simp only at hx ⊢
  refine g_permH (H1 := Ent.box p2 [.slice ga gn gc, .slice fa fn fc] 25 :: Ent.vec xa n xc 27 1 (rs.map valR) :: rs.map entR) List.perm_append_comm ?_
  repeat (first | refine g_op rfl ?_ | refine g_then ?_ | refine g_nil ?_ | refine g_region ?_ | refine g_seq ?_ | refine g_alloc rfl fun _ _ => ?_ | refine g_storeAgg ?_)
  rename_i p6 _
  refine g_callV rfl (fun w hw => asked_c u hl i _ _ w (hg0.keep keeps_global hw.chg) (hf0.keep keeps_func hw.chg) (hways.keep hw.chg)) ?_
  rw [has]
  repeat (first | refine g_op rfl ?_ | refine g_then ?_ | refine g_nil ?_ | refine g_region ?_ | refine g_seq ?_ | refine g_alloc rfl fun _ _ => ?_ | refine g_storeAgg ?_ | refine g_skip ?_ | refine g_condF ?_)
  rename_i p7 _
  refine g_cond (fun h => absurd h (by simp)) fun _ => ?_
  have hrn : rs.length = n := by have := congrArg List.length hx; rw [List.length_map] at this; rw [this]; simp [inG, hnn]
  repeat (first | refine g_op rfl ?_ | refine g_then ?_ | refine g_nil ?_ | refine g_region ?_ | refine g_seq ?_ | refine g_block ?_ | refine g_skip ?_)
  refine g_loop (fun (b : Nat) => b ≤ n) (fun b => [(8, .int .i64 b), (5, .slice xa n xc), (2, .pointer (some ⟨p2, 0, none⟩)), (1, .int .i64 i), (6, .pointer (some ⟨p6, 0, none⟩)), (7, .pointer (some ⟨p7, 0, none⟩))])
    (fun _ => Ent.box p7 [.int .i64 0, .int .i64 0] 29 :: Ent.box p6 [.int .i64 0, .int .i64 0] 29 :: Ent.box p2 [.slice ga gn gc, .slice fa fn fc] 25 :: Ent.vec xa n xc 27 1 (rs.map valR) :: rs.map entR) (fun b => n - b) 0 (Nat.zero_le _) (g_done (by repeat (first | exact trivial | refine ⟨rfl, ?_⟩)) (List.Sublist.refl _)) fun b hb => ?_
  repeat (first | refine g_op rfl ?_ | refine g_then ?_ | refine g_nil ?_ | refine g_region ?_ | refine g_seq ?_)
  refine g_cond (fun h1 => ?_) (fun h1 => ?_)
  case refine_2 =>
    repeat (first | refine g_op rfl ?_ | refine g_then ?_ | refine g_region ?_ | refine g_seq ?_ | refine g_exit ?_ | refine g_thenExit ?_ | refine g_exitHere ?_)
    rw [show (decide ((0 : Int) = 0) && decide ((0 : Int) = 0)) = true by simp]
    repeat (first | refine g_op rfl ?_ | refine g_then ?_ | refine g_nil ?_ | refine g_ret ?_)
    exact g_retV rfl rfl
  have hlt : b < n := by simpa using h1
  refine g_vec 3 rfl (by omega) fun vb vo hva => ?_
  subst hva
  have hlb : LtIs b n := ⟨hlt⟩
  obtain ⟨r, hr⟩ : ∃ r, rs[b]? = some r := ⟨_, List.getElem?_eq_getElem (by omega)⟩
  obtain ⟨B, hB⟩ : ∃ B, X.blocks[b]? = some B := ⟨_, List.getElem?_eq_getElem (by omega)⟩

  have hrl : r.l = intsL (liveN X.blocks R (b, -1)) := by
    have h := congrArg (fun l => l[b]?) hx
    simp only [List.getElem?_map, hr, Option.map_some, inG_get (show b < X.blocks.length by omega), Option.some.injEq] at h
    exact h
  have hso : SpotOk X.blocks (b, -1) := ⟨by simp, B, hB, by simp only; omega⟩
  have hxa : XAt (rs.map valR) (b * 1) (.slice r.a r.l.length r.c) := ⟨by simp [hr, valR]⟩
  repeat (first | refine g_then ?_ | refine g_seq ?_ | refine g_block ?_ | refine g_skip ?_)
  refine g_drawH (Ent.box p7 [.int .i64 0, .int .i64 0] 29 :: Ent.box p6 [.int .i64 0, .int .i64 0] 29 :: Ent.box p2 [.slice ga gn gc, .slice fa fn fc] 25 :: Ent.vec (some ⟨vb, vo, none⟩) n xc 27 1 (rs.map valR) :: rs.map entR) mixed (List.Sublist.refl _) ?_
  refine h_take 0 rfl (by decide +kernel) (List.Sublist.refl _) ?_
  refine h_take 1 rfl (by decide +kernel) (List.Sublist.refl _) ?_
  refine h_take 2 rfl (by decide +kernel) (List.Sublist.refl _) ?_
  refine h_take 3 rfl (by decide +kernel) (List.Sublist.refl _) ?_
  refine h_take 4 rfl (by decide +kernel) (List.Sublist.refl _) ?_
  refine h_take 5 rfl (by decide +kernel) (List.Sublist.refl _) ?_
  refine h_take 6 rfl (by decide +kernel) (List.Sublist.refl _) ?_
  refine h_take 7 rfl (by decide +kernel) (List.Sublist.refl _) ?_
  refine h_take 8 rfl (by decide +kernel) (List.Sublist.refl _) ?_
  refine h_take 9 rfl (by decide +kernel) (List.Sublist.refl _) ?_
  refine h_take 10 rfl (by decide +kernel) (List.Sublist.refl _) ?_
  refine h_callE 11 (val := fun x : Option Addr × Nat => .slice x.1 (liveN X.blocks R (b, -1)).length x.2) (E := fun x => [Ent.vec x.1 (liveN X.blocks R (b, -1)).length x.2 3 1 ((liveN X.blocks R (b, -1)).map intN)]) (φ := fun _ => True) rfl (by decide +kernel) (List.Sublist.refl _) (fun w hw => liveAt_c _ _ X.blocks _ ⟨_, _, _, rfl⟩ (b, -1) w (hbv0.keep keeps_block hw.chg) (by omega) R hR hFO (fun B hB => (hlens B hB).1) hargs hso) fun y _ => ?_
  obtain ⟨ya, yc⟩ := y
  simp only [List.cons_append, List.nil_append]
  have hll := liveN_len (bl := X.blocks) (R := R) (s := (b, -1))
  refine h_callV 12 rfl (by decide +kernel) (List.Sublist.cons _ (List.Sublist.refl _)) (fun w hw => ints_same _ _ (intsL (liveN X.blocks R (b, -1))) w ?_ ?_) ?_
  · rw [← hrl]
    exact rowI_sl (hw.sub (List.Sublist.cons _ (List.Sublist.cons _ (List.Sublist.cons _ (List.Sublist.cons _ (List.Sublist.cons _ (List.Sublist.refl _))))))) hr (by rw [hrl]; exact intsL_bd hR)
  · exact ints_sl hw (k := 0) rfl rfl (by omega) fun y hy => by have := liveN_lt hy; omega
  refine h_take 13 rfl (by decide +kernel) (List.Sublist.cons _ (List.Sublist.refl _)) ?_
  refine h_end (by decide +kernel) ?_
  repeat (first | refine g_op rfl ?_ | refine g_then ?_ | refine g_nil ?_ | refine g_region ?_ | refine g_opS rfl ?_ | refine g_inBlock ?_ | refine g_skip ?_ | refine g_condF ?_ | refine g_add rfl (by omega) (by omega) ?_)
  exact g_next (b + 1) hlt (by omega) (by repeat (first | exact trivial | refine ⟨rfl, ?_⟩)) (List.Sublist.cons _ (List.Sublist.refl _))
theorem outLaw_c (u : LUnit) (k : Int) (hk : inI k) (g fs : Value) (w0 : World) (hg : SlAt w0 g 3 u.globals GlobalV) (hf : SlAt w0 fs 4 u.funcs FuncV) (hways : CellsAt w0 0 0 waysC) :
    RetV Tryd.prog 10 [.agg #[g, fs], .int .i64 k] w0 (.bool true) := by
  classical
  have hg0 := hg
  have hf0 := hf
  obtain ⟨ga, gn, gc, gb, go, rfl, _⟩ := hg
  obtain ⟨fa, fn, fc, fb, fo, rfl, hfn, hfnc, hfnb, hfc, hfa, hfel⟩ := hf
  refine ret_enter Tryd.func10 rfl Tryd.ntmps10 rfl (Wd.nil NoS w0) ?_
  repeat (first | refine g_op rfl ?_ | refine g_then ?_ | refine g_nil ?_ | refine g_region ?_ | refine g_seq ?_ | refine g_box rfl fun _ _ => ?_)
  rename_i p2 _
  refine g_callE (val := fun b : Bool => .bool b) (E := fun _ => []) (φ := fun b => b = false → light u) rfl (fun w hw => heavy_c u _ _ w (hf0.keep keeps_func hw.chg) ⟨_, _, _, rfl⟩) fun b hb => ?_
  simp only [List.nil_append]
  cases b
  case true =>
    repeat (first | refine g_then ?_ | refine g_nil ?_ | refine g_region ?_ | refine g_seq ?_ | refine g_opS rfl ?_ | refine g_condT ?_ | refine g_ret ?_ | refine g_thenRet ?_)
    exact g_retV rfl rfl
  have hl := hb rfl
  repeat (first | refine g_op rfl ?_ | refine g_then ?_ | refine g_nil ?_ | refine g_region ?_ | refine g_seq ?_ | refine g_skip ?_ | refine g_condF ?_)
  by_cases hbad : (askedL u k).1 ≠ 0
  · refine g_callV rfl (fun w hw => out_bad u hl k hk hbad _ _ w (hg0.keep keeps_global hw.chg) (hf0.keep keeps_func hw.chg) (hways.keep hw.chg)) ?_
    repeat (first | refine g_op rfl ?_ | refine g_then ?_ | refine g_nil ?_ | refine g_region ?_ | refine g_seq ?_ | refine g_alloc rfl fun _ _ => ?_ | refine g_storeAgg ?_)
    refine g_callV rfl (fun w hw => asked_c u hl k _ _ w (hg0.keep keeps_global hw.chg) (hf0.keep keeps_func hw.chg) (hways.keep hw.chg)) ?_
    repeat (first | refine g_op rfl ?_ | refine g_then ?_ | refine g_nil ?_ | refine g_region ?_ | refine g_seq ?_ | refine g_alloc rfl fun _ _ => ?_ | refine g_storeAgg ?_)
    refine g_cond (fun h1 => ?_) (fun h1 => ?_)
    · repeat (first | refine g_op rfl ?_ | refine g_region ?_ | refine g_seq ?_)
      rw [show (decide ((askedL u k).1 = (askedL u k).1) && decide ((askedL u k).2 = (askedL u k).2)) = true by simp]
      repeat (first | refine g_op rfl ?_ | refine g_then ?_ | refine g_nil ?_ | refine g_opS rfl ?_ | refine g_open ?_ | refine g_ret ?_ | refine g_thenRet ?_)
      exact g_retV rfl rfl
    · exact absurd h1 (by simp [hbad])
  have hgood : (askedL u k).1 = 0 := by simpa using hbad
  obtain ⟨hch, has, i, X, rfl, hX, hok⟩ := asked_ok hgood
  have hpos := check_pos hch hX
  have hil : i < fn := by rw [hfn]; exact (List.getElem?_eq_some_iff.1 hX).1
  have had : AddrIs fa fb fo := ⟨hfa (ne_of_get hX)⟩
  have hli : LtIs i fn := ⟨hil⟩
  obtain ⟨cs, hcs, bv, rfl, hpi, hri, hbv⟩ := hfel i X hX
  have hci : CellsIs w0 fb (fo + i * 4) _ := ⟨hcs⟩
  have hbv0 := hbv
  obtain ⟨ba, bn, bc, _, _, rfl, hbn, _⟩ := hbv
  have h24 := (hl.2 X (List.mem_of_getElem? hX)).1
  obtain ⟨R, hXR, hR, hFO⟩ := check_func hch hX
  have hlens := light_lens (hl.2 X (List.mem_of_getElem? hX))
  have hargs := check_args hch hX
  have hRN : X.regs.toNat = R := by omega
  rw [hXR] at hci
  subst hbn
  generalize hnn : X.blocks.length = n at *
  refine g_callE (val := fun x : Option Addr × Nat × List Row => .tuple #[.slice x.1 n x.2.1, .agg #[.int .i64 0, .int .i64 0]]) (E := fun x => Ent.vec x.1 n x.2.1 27 1 (x.2.2.map valR) :: x.2.2.map entR) (φ := fun x => x.2.2.map (·.l) = outG X.blocks R) rfl (fun w hw => by
    have := out_ok u hl i hgood X hX hch _ _ w (hg0.keep keeps_global hw.chg) (hf0.keep keeps_func hw.chg) (hways.keep hw.chg)
    rw [hRN, hnn] at this
    exact this) fun x hx => ?_
  obtain ⟨xa, xc, rs⟩ := x
  simp only at hx ⊢
  refine g_permH (H1 := Ent.box p2 [.slice ga gn gc, .slice fa fn fc] 25 :: Ent.vec xa n xc 27 1 (rs.map valR) :: rs.map entR) List.perm_append_comm ?_
  repeat (first | refine g_op rfl ?_ | refine g_then ?_ | refine g_nil ?_ | refine g_region ?_ | refine g_seq ?_ | refine g_alloc rfl fun _ _ => ?_ | refine g_storeAgg ?_)
  rename_i p6 _
  refine g_callV rfl (fun w hw => asked_c u hl i _ _ w (hg0.keep keeps_global hw.chg) (hf0.keep keeps_func hw.chg) (hways.keep hw.chg)) ?_
  rw [has]
  repeat (first | refine g_op rfl ?_ | refine g_then ?_ | refine g_nil ?_ | refine g_region ?_ | refine g_seq ?_ | refine g_alloc rfl fun _ _ => ?_ | refine g_storeAgg ?_ | refine g_skip ?_ | refine g_condF ?_)
  rename_i p7 _
  refine g_cond (fun h => absurd h (by simp)) fun _ => ?_
  have hrn : rs.length = n := by have := congrArg List.length hx; rw [List.length_map] at this; rw [this]; simp [outG, hnn]
  repeat (first | refine g_op rfl ?_ | refine g_then ?_ | refine g_nil ?_ | refine g_region ?_ | refine g_seq ?_ | refine g_block ?_ | refine g_skip ?_)
  refine g_loop (fun (b : Nat) => b ≤ n) (fun b => [(8, .int .i64 b), (5, .slice xa n xc), (2, .pointer (some ⟨p2, 0, none⟩)), (1, .int .i64 i), (6, .pointer (some ⟨p6, 0, none⟩)), (7, .pointer (some ⟨p7, 0, none⟩))])
    (fun _ => Ent.box p7 [.int .i64 0, .int .i64 0] 29 :: Ent.box p6 [.int .i64 0, .int .i64 0] 29 :: Ent.box p2 [.slice ga gn gc, .slice fa fn fc] 25 :: Ent.vec xa n xc 27 1 (rs.map valR) :: rs.map entR) (fun b => n - b) 0 (Nat.zero_le _) (g_done (by repeat (first | exact trivial | refine ⟨rfl, ?_⟩)) (List.Sublist.refl _)) fun b hb => ?_
  repeat (first | refine g_op rfl ?_ | refine g_then ?_ | refine g_nil ?_ | refine g_region ?_ | refine g_seq ?_)
  refine g_cond (fun h1 => ?_) (fun h1 => ?_)
  case refine_2 =>
    repeat (first | refine g_op rfl ?_ | refine g_then ?_ | refine g_region ?_ | refine g_seq ?_ | refine g_exit ?_ | refine g_thenExit ?_ | refine g_exitHere ?_)
    rw [show (decide ((0 : Int) = 0) && decide ((0 : Int) = 0)) = true by simp]
    repeat (first | refine g_op rfl ?_ | refine g_then ?_ | refine g_nil ?_ | refine g_ret ?_)
    exact g_retV rfl rfl
  have hlt : b < n := by simpa using h1
  refine g_vec 3 rfl (by omega) fun vb vo hva => ?_
  subst hva
  have hlb : LtIs b n := ⟨hlt⟩
  obtain ⟨r, hr⟩ : ∃ r, rs[b]? = some r := ⟨_, List.getElem?_eq_getElem (by omega)⟩
  obtain ⟨B, hB⟩ : ∃ B, X.blocks[b]? = some B := ⟨_, List.getElem?_eq_getElem (by omega)⟩
  obtain ⟨_, _, _, bb, bo', e, _, _, _, _, hba, hel⟩ := id hbv0
  simp only [Value.slice.injEq] at e
  obtain ⟨rfl, rfl, rfl⟩ := e
  have hadB : AddrIs _ bb bo' := ⟨hba (ne_of_get hB)⟩
  obtain ⟨csB, hcsB, pv, lv, tv, rfl, _, _, _, hlv, _⟩ := hel b B hB
  obtain ⟨la, ln, lc, _, _, rfl, hln, _⟩ := hlv
  subst hln
  have hciB : CellsIs w0 bb (bo' + b * 6) _ := ⟨hcsB⟩
  have hBl := (hlens B (List.mem_of_getElem? hB)).1
  have hao : AddOk (B.list.length : Int) 1 := ⟨by omega, by omega⟩
  have hrl : r.l = intsL (liveN X.blocks R (b, (B.list.length : Int) + 1)) := by
    have h := congrArg (fun l => l[b]?) hx
    simp only [List.getElem?_map, hr, Option.map_some, outG_get hB, Option.some.injEq] at h
    exact h
  have hso : SpotOk X.blocks (b, (B.list.length : Int) + 1) := ⟨by simp only; omega, B, hB, by simp only; omega⟩
  have hxa : XAt (rs.map valR) (b * 1) (.slice r.a r.l.length r.c) := ⟨by simp [hr, valR]⟩
  repeat (first | refine g_then ?_ | refine g_seq ?_ | refine g_block ?_ | refine g_skip ?_)
  refine g_drawH (Ent.box p7 [.int .i64 0, .int .i64 0] 29 :: Ent.box p6 [.int .i64 0, .int .i64 0] 29 :: Ent.box p2 [.slice ga gn gc, .slice fa fn fc] 25 :: Ent.vec (some ⟨vb, vo, none⟩) n xc 27 1 (rs.map valR) :: rs.map entR) mixed (List.Sublist.refl _) ?_
  refine h_take 0 rfl (by decide +kernel) (List.Sublist.refl _) ?_
  refine h_take 1 rfl (by decide +kernel) (List.Sublist.refl _) ?_
  refine h_take 2 rfl (by decide +kernel) (List.Sublist.refl _) ?_
  refine h_take 3 rfl (by decide +kernel) (List.Sublist.refl _) ?_
  refine h_take 4 rfl (by decide +kernel) (List.Sublist.refl _) ?_
  refine h_take 5 rfl (by decide +kernel) (List.Sublist.refl _) ?_
  refine h_take 6 rfl (by decide +kernel) (List.Sublist.refl _) ?_
  refine h_take 7 rfl (by decide +kernel) (List.Sublist.refl _) ?_
  refine h_take 8 rfl (by decide +kernel) (List.Sublist.refl _) ?_
  refine h_take 9 rfl (by decide +kernel) (List.Sublist.refl _) ?_
  refine h_take 10 rfl (by decide +kernel) (List.Sublist.refl _) ?_
  refine h_take 11 rfl (by decide +kernel) (List.Sublist.refl _) ?_
  refine h_take 12 rfl (by decide +kernel) (List.Sublist.refl _) ?_
  refine h_take 13 rfl (by decide +kernel) (List.Sublist.refl _) ?_
  refine h_take 14 rfl (by decide +kernel) (List.Sublist.refl _) ?_
  refine h_take 15 rfl (by decide +kernel) (List.Sublist.refl _) ?_
  refine h_take 16 rfl (by decide +kernel) (List.Sublist.refl _) ?_
  refine h_take 17 rfl (by decide +kernel) (List.Sublist.refl _) ?_
  refine h_take 18 rfl (by decide +kernel) (List.Sublist.refl _) ?_
  refine h_take 19 rfl (by decide +kernel) (List.Sublist.refl _) ?_
  refine h_take 20 rfl (by decide +kernel) (List.Sublist.refl _) ?_
  refine h_take 21 rfl (by decide +kernel) (List.Sublist.refl _) ?_
  refine h_take 22 rfl (by decide +kernel) (List.Sublist.refl _) ?_
  refine h_callE 23 (val := fun x : Option Addr × Nat => .slice x.1 (liveN X.blocks R (b, (B.list.length : Int) + 1)).length x.2) (E := fun x => [Ent.vec x.1 (liveN X.blocks R (b, (B.list.length : Int) + 1)).length x.2 3 1 ((liveN X.blocks R (b, (B.list.length : Int) + 1)).map intN)]) (φ := fun _ => True) rfl (by decide +kernel) (List.Sublist.refl _) (fun w hw => liveAt_c _ _ X.blocks _ ⟨_, _, _, rfl⟩ (b, (B.list.length : Int) + 1) w (hbv0.keep keeps_block hw.chg) (by omega) R hR hFO (fun B hB => (hlens B hB).1) hargs hso) fun y _ => ?_
  obtain ⟨ya, yc⟩ := y
  simp only [List.cons_append, List.nil_append]
  have hll := liveN_len (bl := X.blocks) (R := R) (s := (b, (B.list.length : Int) + 1))
  refine h_callV 24 rfl (by decide +kernel) (List.Sublist.cons _ (List.Sublist.refl _)) (fun w hw => ints_same _ _ (intsL (liveN X.blocks R (b, (B.list.length : Int) + 1))) w ?_ ?_) ?_
  · rw [← hrl]
    exact rowI_sl (hw.sub (List.Sublist.cons _ (List.Sublist.cons _ (List.Sublist.cons _ (List.Sublist.cons _ (List.Sublist.cons _ (List.Sublist.refl _))))))) hr (by rw [hrl]; exact intsL_bd hR)
  · exact ints_sl hw (k := 0) rfl rfl (by omega) fun y hy => by have := liveN_lt hy; omega
  refine h_take 25 rfl (by decide +kernel) (List.Sublist.cons _ (List.Sublist.refl _)) ?_
  refine h_end (by decide +kernel) ?_
  repeat (first | refine g_op rfl ?_ | refine g_then ?_ | refine g_nil ?_ | refine g_region ?_ | refine g_opS rfl ?_ | refine g_inBlock ?_ | refine g_skip ?_ | refine g_condF ?_ | refine g_add rfl (by omega) (by omega) ?_)
  exact g_next (b + 1) hlt (by omega) (by repeat (first | exact trivial | refine ⟨rfl, ?_⟩)) (List.Sublist.cons _ (List.Sublist.refl _))
end Go.Proofs.YtebajiafdkokjaaDoor

/- live.At out of range; the law LiveAts, walked. -/
namespace Go.Proofs.YtebajiafdkokjaaDoor
open Go Go.RowKit
attribute [local irreducible] wpListIn Code.wpIn Exit.then Exit.inBlock bodyPost wpQuiet wpAnyIn wpAnyH bodyPostM
set_option maxHeartbeats 8000000

theorem at_range (u : LUnit) (hl : light u) (k : Nat) (hgood : (askedL u k).1 = 0) (X : LFunc) (hX : u.funcs[k]? = some X) (b : Int) (hb : b < 0 ∨ (X.blocks.length : Int) ≤ b) (g fs : Value) (w0 : World) (hg : SlAt w0 g 3 u.globals GlobalV) (hf : SlAt w0 fs 4 u.funcs FuncV) (hways : CellsAt w0 0 0 waysC) :
    RetV Tryd.prog 40 [.agg #[g, fs], .int .i64 k, .int .i64 b] w0 (.tuple #[.slice none 0 0, .agg #[.int .i64 3, .int .i64 (-1)]]) := by
  classical
  have hg0 := hg
  have hf0 := hf
  obtain ⟨ga, gn, gc, gb, go, rfl, _⟩ := hg
  obtain ⟨fa, fn, fc, fb, fo, rfl, _⟩ := hf
  have hlx := hl.2 X (List.mem_of_getElem? hX)
  have h24 := hlx.1
  obtain ⟨bv, hbv, hfc⟩ := func_ok u hl k hgood _ _ X hX w0 hg0 hf0 hways
  have hbv0 := hbv
  obtain ⟨ba, n, bc, bb, bo', rfl, hn, hnc, hnb, hbc, hba, hel⟩ := hbv
  refine ret_enterM Tryd.func40 rfl Tryd.ntmps40 rfl (Wd.nil NoS w0) ?_
  repeat (first | refine g_op rfl ?_ | refine g_then ?_ | refine g_nil ?_ | refine g_region ?_ | refine g_seq ?_ | refine g_box rfl fun _ _ => ?_ | refine g_alloc rfl fun _ _ => ?_)
  rename_i p3 _ p7 _
  refine g_callV rfl (fun w hw => hfc w hw.chg) ?_
  repeat (first | refine g_op rfl ?_ | refine g_then ?_ | refine g_nil ?_ | refine g_region ?_ | refine g_seq ?_ | refine g_alloc rfl fun _ _ => ?_ | refine g_storeAgg ?_ | refine g_skip ?_ | refine g_condF ?_ | refine g_sub rfl (by omega) (by omega) ?_)
  rename_i p8 _ p9 _
  refine g_callV rfl (fun w hw => within_c _ _ _ w) ?_
  rw [show within b 0 ((n : Int) - 1) = false by simp only [within, Bool.and_eq_false_iff, decide_eq_false_iff_not]; omega]
  repeat (first | refine g_op rfl ?_ | refine g_then ?_ | refine g_nil ?_ | refine g_region ?_ | refine g_seq ?_ | refine g_condT ?_)
  refine g_callV rfl (fun w hw => fault_c 3 (-1) w) ?_
  repeat (first | refine g_then ?_ | refine g_nil ?_ | refine g_opS rfl ?_ | refine g_storeAgg ?_ | refine g_ret ?_ | refine g_thenRet ?_)
  exact g_retMsTC [] rfl fun _ hw => ⟨rfl, hw.chg⟩
theorem atLaw_c (u : LUnit) (k : Int) (hk : inI k) (b : Int) (g fs : Value) (w0 : World) (hg : SlAt w0 g 3 u.globals GlobalV) (hf : SlAt w0 fs 4 u.funcs FuncV) (hways : CellsAt w0 0 0 waysC) :
    RetV Tryd.prog 12 [.agg #[g, fs], .int .i64 k, .int .i64 b] w0 (.bool true) := by
  classical
  have hg0 := hg
  have hf0 := hf
  obtain ⟨ga, gn, gc, gb, go, rfl, _⟩ := hg
  obtain ⟨fa, fn, fc, fb, fo, rfl, hfn, hfnc, hfnb, hfc, hfa, hfel⟩ := hf
  refine ret_enter Tryd.func12 rfl Tryd.ntmps12 rfl (Wd.nil NoS w0) ?_
  repeat (first | refine g_op rfl ?_ | refine g_then ?_ | refine g_nil ?_ | refine g_region ?_ | refine g_seq ?_ | refine g_box rfl fun _ _ => ?_)
  rename_i p3 _
  refine g_callE (val := fun b : Bool => .bool b) (E := fun _ => []) (φ := fun b => b = false → light u) rfl (fun w hw => heavy_c u _ _ w (hf0.keep keeps_func hw.chg) ⟨_, _, _, rfl⟩) fun e he => ?_
  simp only [List.nil_append]
  cases e
  case true =>
    repeat (first | refine g_then ?_ | refine g_nil ?_ | refine g_region ?_ | refine g_seq ?_ | refine g_opS rfl ?_ | refine g_condT ?_ | refine g_ret ?_ | refine g_thenRet ?_)
    exact g_retV rfl rfl
  have hl := he rfl
  repeat (first | refine g_op rfl ?_ | refine g_then ?_ | refine g_nil ?_ | refine g_region ?_ | refine g_seq ?_ | refine g_skip ?_ | refine g_condF ?_)
  by_cases hbad : (askedL u k).1 ≠ 0
  · refine g_callV rfl (fun w hw => at_bad u hl k hk b hbad _ _ w (hg0.keep keeps_global hw.chg) (hf0.keep keeps_func hw.chg) (hways.keep hw.chg)) ?_
    repeat (first | refine g_op rfl ?_ | refine g_then ?_ | refine g_nil ?_ | refine g_region ?_ | refine g_seq ?_ | refine g_alloc rfl fun _ _ => ?_ | refine g_storeAgg ?_)
    refine g_callV rfl (fun w hw => asked_c u hl k _ _ w (hg0.keep keeps_global hw.chg) (hf0.keep keeps_func hw.chg) (hways.keep hw.chg)) ?_
    repeat (first | refine g_op rfl ?_ | refine g_then ?_ | refine g_nil ?_ | refine g_region ?_ | refine g_seq ?_ | refine g_alloc rfl fun _ _ => ?_ | refine g_storeAgg ?_)
    rw [show decide ((askedL u k).1 = 0) = false by simp [hbad]]
    repeat (first | refine g_op rfl ?_ | refine g_then ?_ | refine g_nil ?_ | refine g_region ?_ | refine g_seq ?_ | refine g_pass rfl ?_ | refine g_skip ?_ | refine g_condF ?_ | refine g_passU rfl ?_)
    refine g_cond (fun h1 => ?_) (fun h1 => ?_)
    · repeat (first | refine g_op rfl ?_ | refine g_region ?_ | refine g_seq ?_)
      rw [show (decide ((askedL u k).1 = (askedL u k).1) && decide ((askedL u k).2 = (askedL u k).2)) = true by simp]
      repeat (first | refine g_op rfl ?_ | refine g_then ?_ | refine g_nil ?_ | refine g_opS rfl ?_ | refine g_open ?_ | refine g_ret ?_ | refine g_thenRet ?_)
      exact g_retV rfl rfl
    · exact absurd h1 (by simp [hbad])
  have hgood : (askedL u k).1 = 0 := by simpa using hbad
  obtain ⟨hch, has, i, X, rfl, hX, hok⟩ := asked_ok hgood
  have hpos := check_pos hch hX
  have hil : i < fn := by rw [hfn]; exact (List.getElem?_eq_some_iff.1 hX).1
  have had : AddrIs fa fb fo := ⟨hfa (ne_of_get hX)⟩
  have hli : LtIs i fn := ⟨hil⟩
  obtain ⟨cs, hcs, bv, rfl, hpi, hri, hbv⟩ := hfel i X hX
  have hci : CellsIs w0 fb (fo + i * 4) _ := ⟨hcs⟩
  have hbv0 := hbv
  obtain ⟨ba, bn, bc, _, _, rfl, hbn, _⟩ := hbv
  have h24 := (hl.2 X (List.mem_of_getElem? hX)).1
  obtain ⟨R, hXR, hR, hFO⟩ := check_func hch hX
  have hlens := light_lens (hl.2 X (List.mem_of_getElem? hX))
  have hargs := check_args hch hX
  have hRN : X.regs.toNat = R := by omega
  rw [hXR] at hci
  subst hbn
  by_cases hrange : b < 0 ∨ (X.blocks.length : Int) ≤ b
  · refine g_callV rfl (fun w hw => at_range u hl i hgood X hX b hrange _ _ w (hg0.keep keeps_global hw.chg) (hf0.keep keeps_func hw.chg) (hways.keep hw.chg)) ?_
    repeat (first | refine g_op rfl ?_ | refine g_then ?_ | refine g_nil ?_ | refine g_region ?_ | refine g_seq ?_ | refine g_alloc rfl fun _ _ => ?_ | refine g_storeAgg ?_)
    refine g_callV rfl (fun w hw => asked_c u hl i _ _ w (hg0.keep keeps_global hw.chg) (hf0.keep keeps_func hw.chg) (hways.keep hw.chg)) ?_
    rw [has]
    repeat (first | refine g_op rfl ?_ | refine g_then ?_ | refine g_nil ?_ | refine g_region ?_ | refine g_seq ?_ | refine g_open ?_ | refine g_alloc rfl fun _ _ => ?_ | refine g_storeAgg ?_)
    rw [show decide ((0 : Int) = 0) = true from rfl]
    skip
    by_cases hneg : b < 0
    · rw [show decide (b < 0) = true by simpa using hneg]
      repeat (first | refine g_op rfl ?_ | refine g_then ?_ | refine g_nil ?_ | refine g_region ?_ | refine g_open ?_ | refine g_pass rfl ?_ | refine g_condT ?_)
      refine g_callV rfl (fun w hw => sameFault_c 3 (-1) w) ?_
      repeat (first | refine g_op rfl ?_ | refine g_then ?_ | refine g_nil ?_ | refine g_region ?_ | refine g_seq ?_ | refine g_open ?_ | refine g_storeAgg ?_ | refine g_condT ?_)
      rw [show (decide ((3 : Int) = 3) && decide ((-1 : Int) = -1)) = true from rfl, show decide (((0 : Nat) : Int) = 0) = true from rfl]
      repeat (first | refine g_op rfl ?_ | refine g_then ?_ | refine g_nil ?_ | refine g_opS rfl ?_ | refine g_ret ?_ | refine g_thenRet ?_)
      exact g_retV rfl rfl
    · rw [show decide (b < 0) = false by simpa using hneg]
      repeat (first | refine g_op rfl ?_ | refine g_then ?_ | refine g_nil ?_ | refine g_open ?_)
      rw [show decide ((X.blocks.length : Int) ≤ b) = true by simp; omega]
      repeat (first | refine g_region ?_ | refine g_condT ?_)
      refine g_callV rfl (fun w hw => sameFault_c 3 (-1) w) ?_
      repeat (first | refine g_op rfl ?_ | refine g_then ?_ | refine g_nil ?_ | refine g_region ?_ | refine g_seq ?_ | refine g_open ?_ | refine g_storeAgg ?_ | refine g_condT ?_)
      rw [show (decide ((3 : Int) = 3) && decide ((-1 : Int) = -1)) = true from rfl, show decide (((0 : Nat) : Int) = 0) = true from rfl]
      repeat (first | refine g_op rfl ?_ | refine g_then ?_ | refine g_nil ?_ | refine g_opS rfl ?_ | refine g_ret ?_ | refine g_thenRet ?_)
      exact g_retV rfl rfl
  obtain ⟨b, rfl⟩ : ∃ c : Nat, b = c := ⟨b.toNat, by omega⟩
  obtain ⟨B, hB⟩ : ∃ B, X.blocks[b]? = some B := ⟨_, List.getElem?_eq_getElem (by omega)⟩
  have hBl := (hlens B (List.mem_of_getElem? hB)).1
  refine g_callE (val := fun x : Option Addr × Nat × List Row => .tuple #[.slice x.1 (B.list.length + 1) x.2.1, .agg #[.int .i64 0, .int .i64 0]]) (E := fun x => Ent.vec x.1 (B.list.length + 1) x.2.1 27 1 (x.2.2.map valR) :: x.2.2.map entR) (φ := fun x => x.2.2.map (·.l) = atG X.blocks R b B.list.length) rfl (fun w hw => by
    have := at_ok u hl i hgood X hX hch b B hB _ _ w (hg0.keep keeps_global hw.chg) (hf0.keep keeps_func hw.chg) (hways.keep hw.chg)
    rw [hRN] at this
    exact this) fun x hx => ?_
  obtain ⟨xa, xc, rs⟩ := x
  simp only at hx ⊢
  refine g_permH (H1 := Ent.box p3 [.slice ga gn gc, .slice fa fn fc] 25 :: Ent.vec xa (B.list.length + 1) xc 27 1 (rs.map valR) :: rs.map entR) List.perm_append_comm ?_
  repeat (first | refine g_op rfl ?_ | refine g_then ?_ | refine g_nil ?_ | refine g_region ?_ | refine g_seq ?_ | refine g_alloc rfl fun _ _ => ?_ | refine g_storeAgg ?_)
  rename_i p8 _
  refine g_callV rfl (fun w hw => asked_c u hl i _ _ w (hg0.keep keeps_global hw.chg) (hf0.keep keeps_func hw.chg) (hways.keep hw.chg)) ?_
  rw [has]
  repeat (first | refine g_op rfl ?_ | refine g_then ?_ | refine g_nil ?_ | refine g_region ?_ | refine g_seq ?_ | refine g_open ?_ | refine g_alloc rfl fun _ _ => ?_ | refine g_storeAgg ?_)
  rename_i p9 _
  rw [show decide ((0 : Int) = 0) = true from rfl]
  skip
  rw [show decide ((b : Int) < 0) = false by simp]
  repeat (first | refine g_op rfl ?_ | refine g_then ?_ | refine g_nil ?_)
  obtain ⟨_, _, _, bb, bo', e, _, _, _, _, hba, hel⟩ := id hbv0
  simp only [Value.slice.injEq] at e
  obtain ⟨rfl, rfl, rfl⟩ := e
  have hadB : AddrIs _ bb bo' := ⟨hba (ne_of_get hB)⟩
  obtain ⟨csB, hcsB, pv, lv, tv, rfl, _, _, _, hlv, _⟩ := hel b B hB
  obtain ⟨la, ln, lc, _, _, rfl, hln, _⟩ := hlv
  subst hln
  have hciB : CellsIs w0 bb (bo' + b * 6) _ := ⟨hcsB⟩
  have hlbB : LtIs b X.blocks.length := ⟨by omega⟩
  have hao : AddOk (B.list.length : Int) 1 := ⟨by omega, by omega⟩
  rw [show decide ((X.blocks.length : Int) ≤ (b : Int)) = false by simp; omega]
  repeat (first | refine g_op rfl ?_ | refine g_then ?_ | refine g_nil ?_ | refine g_region ?_ | refine g_seq ?_ | refine g_open ?_ | refine g_skip ?_ | refine g_condF ?_)
  rw [show decide (((B.list.length + 1 : Nat) : Int) = (B.list.length : Int) + 1) = true by simp, show (!(decide ((0 : Int) = ((0, 0) : Int × Int).1) && decide ((0 : Int) = ((0, 0) : Int × Int).2))) = false from rfl, show (!true) = false from rfl]
  repeat (first | refine g_op rfl ?_ | refine g_then ?_ | refine g_nil ?_ | refine g_region ?_ | refine g_seq ?_ | refine g_block ?_ | refine g_skip ?_ | refine g_condF ?_)
  have hrn : rs.length = B.list.length + 1 := by have := congrArg List.length hx; rw [List.length_map] at this; rw [this]; simp [atG]
  refine g_loop (fun (j : Nat) => j ≤ B.list.length + 1) (fun j => [(10, .int .i64 j), (7, .slice xa (B.list.length + 1) xc), (3, .pointer (some ⟨p3, 0, none⟩)), (1, .int .i64 i), (2, .int .i64 b)])
    (fun _ => Ent.box p9 [.int .i64 0, .int .i64 0] 29 :: Ent.box p8 [.int .i64 0, .int .i64 0] 29 :: Ent.box p3 [.slice ga gn gc, .slice fa fn fc] 25 :: Ent.vec xa (B.list.length + 1) xc 27 1 (rs.map valR) :: rs.map entR) (fun j => B.list.length + 1 - j) 0 (Nat.zero_le _) (g_done (by repeat (first | exact trivial | refine ⟨rfl, ?_⟩)) (List.Sublist.refl _)) fun j hj => ?_
  repeat (first | refine g_op rfl ?_ | refine g_then ?_ | refine g_nil ?_ | refine g_region ?_ | refine g_seq ?_)
  refine g_cond (fun h1 => ?_) (fun h1 => ?_)
  case refine_2 =>
    repeat (first | refine g_op rfl ?_ | refine g_then ?_ | refine g_nil ?_ | refine g_region ?_ | refine g_seq ?_ | refine g_exit ?_ | refine g_thenExit ?_ | refine g_exitHere ?_ | refine g_ret ?_)
    exact g_retV rfl rfl
  have hlt : j < B.list.length + 1 := by have := h1; simp at this; omega
  refine g_vec 3 rfl (by omega) fun vb vo hva => ?_
  subst hva
  have hlj : LtIs j (B.list.length + 1) := ⟨hlt⟩
  obtain ⟨r, hr⟩ : ∃ r, rs[j]? = some r := ⟨_, List.getElem?_eq_getElem (by omega)⟩
  have hrl : r.l = intsL (liveN X.blocks R (b, (j : Int))) := by
    have h := congrArg (fun l => l[j]?) hx
    simp only [List.getElem?_map, hr, Option.map_some, atG, List.getElem?_range hlt, Option.some.injEq] at h
    exact h
  have hso : SpotOk X.blocks (b, (j : Int)) := ⟨by simp only; omega, B, hB, by simp only; omega⟩
  have hxa : XAt (rs.map valR) (j * 1) (.slice r.a r.l.length r.c) := ⟨by simp [hr, valR]⟩
  repeat (first | refine g_then ?_ | refine g_seq ?_ | refine g_block ?_ | refine g_skip ?_)
  refine g_drawH (Ent.box p9 [.int .i64 0, .int .i64 0] 29 :: Ent.box p8 [.int .i64 0, .int .i64 0] 29 :: Ent.box p3 [.slice ga gn gc, .slice fa fn fc] 25 :: Ent.vec (some ⟨vb, vo, none⟩) (B.list.length + 1) xc 27 1 (rs.map valR) :: rs.map entR) mixed (List.Sublist.refl _) ?_
  refine h_take 0 rfl (by decide +kernel) (List.Sublist.refl _) ?_
  refine h_take 1 rfl (by decide +kernel) (List.Sublist.refl _) ?_
  refine h_take 2 rfl (by decide +kernel) (List.Sublist.refl _) ?_
  refine h_take 3 rfl (by decide +kernel) (List.Sublist.refl _) ?_
  refine h_take 4 rfl (by decide +kernel) (List.Sublist.refl _) ?_
  refine h_take 5 rfl (by decide +kernel) (List.Sublist.refl _) ?_
  refine h_take 6 rfl (by decide +kernel) (List.Sublist.refl _) ?_
  refine h_take 7 rfl (by decide +kernel) (List.Sublist.refl _) ?_
  refine h_take 8 rfl (by decide +kernel) (List.Sublist.refl _) ?_
  refine h_take 9 rfl (by decide +kernel) (List.Sublist.refl _) ?_
  refine h_take 10 rfl (by decide +kernel) (List.Sublist.refl _) ?_
  refine h_take 11 rfl (by decide +kernel) (List.Sublist.refl _) ?_
  refine h_callE 12 (val := fun x : Option Addr × Nat => .slice x.1 (liveN X.blocks R (b, (j : Int))).length x.2) (E := fun x => [Ent.vec x.1 (liveN X.blocks R (b, (j : Int))).length x.2 3 1 ((liveN X.blocks R (b, (j : Int))).map intN)]) (φ := fun _ => True) rfl (by decide +kernel) (List.Sublist.refl _) (fun w hw => liveAt_c _ _ X.blocks _ ⟨_, _, _, rfl⟩ (b, (j : Int)) w (hbv0.keep keeps_block hw.chg) (by omega) R hR hFO (fun B hB => (hlens B hB).1) hargs hso) fun y _ => ?_
  obtain ⟨ya, yc⟩ := y
  simp only [List.cons_append, List.nil_append]
  have hll := liveN_len (bl := X.blocks) (R := R) (s := (b, (j : Int)))
  refine h_callV 13 rfl (by decide +kernel) (List.Sublist.cons _ (List.Sublist.refl _)) (fun w hw => ints_same _ _ (intsL (liveN X.blocks R (b, (j : Int)))) w ?_ ?_) ?_
  · rw [← hrl]
    exact rowI_sl (hw.sub (List.Sublist.cons _ (List.Sublist.cons _ (List.Sublist.cons _ (List.Sublist.cons _ (List.Sublist.cons _ (List.Sublist.refl _))))))) hr (by rw [hrl]; exact intsL_bd hR)
  · exact ints_sl hw (k := 0) rfl rfl (by omega) fun y hy => by have := liveN_lt hy; omega
  refine h_take 14 rfl (by decide +kernel) (List.Sublist.cons _ (List.Sublist.refl _)) ?_
  refine h_end (by decide +kernel) ?_
  repeat (first | refine g_op rfl ?_ | refine g_then ?_ | refine g_nil ?_ | refine g_region ?_ | refine g_opS rfl ?_ | refine g_inBlock ?_ | refine g_skip ?_ | refine g_condF ?_ | refine g_add rfl (by omega) (by omega) ?_)
  exact g_next (j + 1) hlt (by omega) (by repeat (first | exact trivial | refine ⟨rfl, ?_⟩)) (List.Sublist.cons _ (List.Sublist.refl _))
end Go.Proofs.YtebajiafdkokjaaDoor
