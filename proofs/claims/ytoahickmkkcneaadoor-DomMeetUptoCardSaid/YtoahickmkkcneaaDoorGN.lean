/- Texts joined: Know BackL Table Tame TameL. -/
import Derived.Test.YtoahickmkkcneaaDoorGC
import Derived.Test.YtoahickmkkcneaaDoorGD
import Derived.Test.YtoahickmkkcneaaDoorGE
import Derived.Test.YtoahickmkkcneaaDoorGF
import Derived.Test.YtoahickmkkcneaaDoorGI
import Derived.Test.YtoahickmkkcneaaDoorGK
import Derived.Test.YtoahickmkkcneaaDoorGL
import Derived.Test.YtoahickmkkcneaaDoorGM
/- A callee that hands back a slice of new memory that is only read from then on. The unit 'ring'. -/
namespace Go.Proofs.YtoahickmkkcneaaDoor
open Go Go.RowKit

/-- it hands back a slice, in 'mk', that reads as l -/
def RetK (P : Program) (f : FuncId) (args : List Value) (w0 : World) {α : Type} (s : Nat) (l : List α) (V : World → α → List Value → Prop) (mk : Value → Value) : Prop :=
  Ret P f args w0 fun u w' => ∃ x : Option Addr × Nat × (Nat → Prop), u = mk (.slice x.1 l.length x.2.1) ∧ Wd NoS w0 [⟨x.2.2, fun w => SlAt w (.slice x.1 l.length x.2.1) s l V⟩] w' ∧ True
section
variable {P : Program} {ro : Option Nat} {N : Nat} {ds : List Deferred} {S : Nat → Prop} {w0 w : World} {L : List (Nat × Value)} {H E : List Ent} {ops : Array Oper} {rest : List Oper} {Q : Exit → Act → World → Prop}
theorem g_callK {α : Type} {s : Nat} {l : List α} {V : World → α → List Value → Prop} {mk : Value → Value} {d ty f : Nat} {args : List Operand} {vs : List Value} {tys : Array Nat} {pos : String} {aft : Array Go.Edge} [h : EnterOk P f] [hx : Evs L args vs] (hd : okPut d N L = true)
    (hc : ∀ w, Wd S w0 H w → RetK P f vs w s l V mk)
    (k : ∀ a c fp, G N ds S w0 ((d, mk (.slice a l.length c)) :: L) (⟨fp, fun w => SlAt w (.slice a l.length c) s l V⟩ :: H) (wpListIn (FW ro) 0 P ops Q rest)) : G N ds S w0 L H (wpListIn (FW ro) 0 P ops Q (⟨some d, .call { callee := .value (.func f), args := args.toArray, argTypes := tys }, ty, pos, aft, none⟩ :: rest)) :=
  g_callE (val := fun x : Option Addr × Nat × (Nat → Prop) => mk (.slice x.1 l.length x.2.1)) (E := fun x => [⟨x.2.2, fun w => SlAt w (.slice x.1 l.length x.2.1) s l V⟩]) (φ := fun _ => True) hd hc fun x _ => k x.1 x.2.1 x.2.2
/-- pieces that read as l, taken as one -/
theorem retK_of {α β : Type} {s : Nat} {l : List α} {V : World → α → List Value → Prop} {mk : Value → Value} {f : FuncId} {args : List Value} {val : β → Value} {E : β → List Ent} {φ : β → Prop} (h : Ret P f args w0 fun u w' => ∃ x, u = val x ∧ Wd NoS w0 (E x) w' ∧ φ x)
    (hv : ∀ x, φ x → ∃ a c, val x = mk (.slice a l.length c) ∧ ∀ w2, Wd (fps (E x)) w2 (E x) w2 → SlAt w2 (.slice a l.length c) s l V) : RetK P f args w0 s l V mk :=
  h.mono fun u w' ⟨x, h1, h2, h3⟩ => by
    obtain ⟨a, c, e, hs⟩ := hv x h3
    have h4 : Wd NoS w0 (E x ++ []) w' := by rw [List.append_nil]; exact h2
    exact ⟨(a, c, _), h1.trans e, h4.pack _ hs, trivial⟩
end
def mainN : ByteArray := ⟨#[109, 97, 105, 110]⟩
def ringB : List LBlock := [⟨[], [], 2, ⟨false, 0⟩, [1]⟩, ⟨[], [], 2, ⟨false, 0⟩, [1]⟩]
def ringF : LFunc := ⟨mainN, 0, 0, ringB⟩
def ringU : LUnit := ⟨[], [ringF]⟩
theorem ring_light : light ringU := ⟨by decide, fun f hf => by
  simp only [ringU, List.mem_singleton] at hf
  subst hf
  exact ⟨by decide, by decide⟩⟩
theorem ring_check : checkL ringU = (0, 0) := by decide +kernel
theorem ring_asked : askedL ringU 0 = (0, 0) := by
  unfold askedL
  rw [ring_check]
  decide
theorem ring_good : GoodB ringB := by
  intro b hb
  simp only [ringB, List.mem_cons, List.not_mem_nil, or_false] at hb
  rcases hb with rfl | rfl <;> exact ⟨by decide, by intro t ht; simp at ht; subst ht; simp [ringB]⟩
theorem ring_edge {x y : Nat} : Edge ringB x y ↔ (x ≤ 1 ∧ y = 1) := by
  unfold Edge toOf ringB
  match x with
  | 0 => simp; omega
  | 1 => simp; omega
  | x + 2 => simp
theorem ring_rch {x : Nat} : Rch ringB (-1) 0 x ↔ x ≤ 1 := by
  constructor
  · intro h
    cases h with
    | refl => omega
    | step _ he _ => have := ring_edge.1 he; omega
  · intro h
    match x, h with
    | 0, _ => exact .refl
    | 1, _ => exact Rch.refl.step (ring_edge.2 ⟨by omega, rfl⟩) (by omega)
theorem ring_order : orderL ringB = [0, 1] := by decide +kernel
theorem ring_backE {b t : Nat} : BackE ringB b t ↔ (b = 1 ∧ t = 1) := by
  unfold BackE
  rw [ring_order, ring_rch, ring_edge]
  constructor
  · rintro ⟨h1, ⟨_, rfl⟩, h3⟩
    match b, h1 with
    | 0, _ => exact absurd h3 (by decide)
    | 1, _ => exact ⟨rfl, rfl⟩
  · rintro ⟨rfl, rfl⟩
    exact ⟨by omega, ⟨by omega, rfl⟩, Nat.le_refl _⟩
theorem ring_back' : backL ringB = [(1, 1)] := by
  classical
  unfold backL backTo backRow
  simp only [ring_backE]
  decide
attribute [local irreducible] wpListIn Code.wpIn Exit.then Exit.inBlock bodyPost wpQuiet wpAnyIn
set_option maxHeartbeats 4000000
theorem nil_sl {α : Type} (w : World) (s : Nat) (V : World → α → List Value → Prop) : SlAt w (.slice none 0 0) s [] V := ⟨none, 0, 0, 0, 0, rfl, rfl, Nat.le_refl _, by omega, by omega, by simp, by simp⟩
/-- what holds where the unit 'ring' lies -/
theorem ring_c (w0 : World) : RetK Tryd.prog 27 [] w0 4 ringU.funcs FuncV fun v => .agg #[.slice none 0 0, v] := by
  refine ret_enter Tryd.func27 rfl Tryd.ntmps27 rfl (Wd.nil NoS w0) ?_
  repeat (first | refine g_op rfl ?_ | refine g_then ?_ | refine g_nil ?_ | refine g_region ?_ | refine g_seq ?_ | refine g_alloc rfl fun _ _ => ?_ | refine g_storeAgg ?_ | refine g_build1 rfl rfl fun _ _ => ?_)
  rename_i p0 _ t1 _ p1 _ t2 _ p2 _
  refine g_build2 rfl rfl fun bb _ => ?_
  repeat (first | refine g_op rfl ?_ | refine g_then ?_ | refine g_nil ?_ | refine g_storeAgg ?_ | refine g_ret ?_ | refine g_build1 rfl rfl fun _ _ => ?_)
  rename_i fb _
  refine fun a w hS => g_retC (P := Tryd.prog) rfl (fun w hw => ⟨(some ⟨fb, 0, none⟩, 1, _), rfl, (hw.sel [0, 1, 3, 5] (by decide)).pack (E := [_, _, _, _]) (H := []) _ fun w2 hw2 => ?_, trivial⟩) a w hS
  refine hw2.slAt (k := 0) rfl rfl (by decide) fun i x hx => ?_
  match i, hx with
  | 0, hx =>
    simp only [ringU, List.getElem?_cons_zero, Option.some.injEq] at hx
    subst hx
    refine ⟨[.string mainN, .int .i64 0, .int .i64 0, .slice (some ⟨bb, 0, none⟩) 2 2], fun j v hj => by simpa [mainN] using hj, _, rfl, by simp [ringF, inI], by simp [ringF, inI], ?_⟩
    refine hw2.slAt (k := 1) rfl rfl (by omega) fun i x hx => ?_
    match i, hx with
    | 0, hx =>
      simp only [ringF, ringB, List.getElem?_cons_zero, Option.some.injEq] at hx
      subst hx
      refine ⟨[.slice none 0 0, .slice none 0 0, .int .i64 2, .bool false, .int .i64 0, .slice (some ⟨t1, 0, none⟩) 1 1], fun j v hj => ?_, _, _, _, rfl, by simp [inI], by simp [inI], nil_sl _ _ _, nil_sl _ _ _, hw2.slAt (k := 3) rfl rfl (by omega) fun i x hx => ⟨[.int .i64 x], fun j v hj => ?_, rfl, ?_⟩⟩
      · match j, hj with
        | 0, hj | 1, hj | 2, hj | 3, hj | 4, hj | 5, hj => simpa using hj
      · match i, j, hx, hj with
        | 0, 0, hx, hj => simp at hx hj ⊢; rw [hx]; exact hj
      · match i, hx with
        | 0, hx => simp at hx; subst hx; simp [inI]
    | 1, hx =>
      simp only [ringF, ringB, List.getElem?_cons_succ, List.getElem?_cons_zero, Option.some.injEq] at hx
      subst hx
      refine ⟨[.slice none 0 0, .slice none 0 0, .int .i64 2, .bool false, .int .i64 0, .slice (some ⟨t2, 0, none⟩) 1 1], fun j v hj => ?_, _, _, _, rfl, by simp [inI], by simp [inI], nil_sl _ _ _, nil_sl _ _ _, hw2.slAt (k := 2) rfl rfl (by omega) fun i x hx => ⟨[.int .i64 x], fun j v hj => ?_, rfl, ?_⟩⟩
      · match j, hj with
        | 0, hj | 1, hj | 2, hj | 3, hj | 4, hj | 5, hj => simpa using hj
      · match i, j, hx, hj with
        | 0, 0, hx, hj => simp at hx hj ⊢; rw [hx]; exact hj
      · match i, hx with
        | 0, hx => simp at hx; subst hx; simp [inI]
end Go.Proofs.YtoahickmkkcneaaDoor

/- graph.Back, turneryref3.Back: what they return; the law GraphBacks, walked. -/
namespace Go.Proofs.YtoahickmkkcneaaDoor
open Go Go.RowKit
attribute [local irreducible] wpListIn Code.wpIn Exit.then Exit.inBlock bodyPost wpQuiet wpAnyIn wpAnyH bodyPostM
set_option maxHeartbeats 4000000

def PairV (_ : World) (p : Nat × Nat) (cs : List Value) : Prop := cs = pairC p
theorem keeps_pair : Keeps PairV := fun _ _ _ _ _ h => h
theorem backL_len {bl : List LBlock} (hlen : bl.length ≤ 100) : (backL bl).length ≤ 10000 := by
  have := backTo_len bl bl.length
  have h2 : bl.length * bl.length ≤ 100 * 100 := Nat.mul_le_mul hlen hlen
  unfold backL; omega
theorem backOfK (nm pa re : Value) (bl : List LBlock) (bs : Value) (hbsl : ∃ a n c, bs = .slice a n c) (w0 : World) (hbs : SlAt w0 bs 6 bl BlockV) (hlen : bl.length ≤ 100) (hok : GoodB bl) (hto : ∀ (b : Nat) (B : LBlock), bl[b]? = some B → B.to.Nodup) (hpos : 0 < bl.length) :
    RetK Tryd.prog 72 [.agg #[nm, pa, re, bs]] w0 2 (backL bl) PairV fun v => v :=
  retK_of (backOf_c nm pa re bl bs hbsl w0 hbs hlen hok hto hpos) fun x _ => ⟨x.1, x.2, rfl, fun w2 hw => flat_sl hw (k := 0) rfl pairC_len (by have := backL_len hlen; omega)⟩
theorem back_bad (u : LUnit) (hl : light u) (k : Int) (hk : inI k) (hbad : (askedL u k).1 ≠ 0) (g fs : Value) (w0 : World) (hg : SlAt w0 g 3 u.globals GlobalV) (hf : SlAt w0 fs 4 u.funcs FuncV) (hways : CellsAt w0 0 0 waysC) :
    RetV Tryd.prog 28 [.agg #[g, fs], .int .i64 k] w0 (.tuple #[.slice none 0 0, .agg #[.int .i64 (askedL u k).1, .int .i64 (askedL u k).2]]) := by
  have hg0 := hg
  have hf0 := hf
  obtain ⟨ga, gn, gc, gb, go, rfl, _⟩ := hg
  obtain ⟨fa, fn, fc, fb, fo, rfl, _⟩ := hf
  refine ret_enter Tryd.func28 rfl Tryd.ntmps28 rfl (Wd.nil NoS w0) ?_
  repeat (first | refine g_op rfl ?_ | refine g_then ?_ | refine g_nil ?_ | refine g_region ?_ | refine g_seq ?_ | refine g_box rfl fun _ _ => ?_ | refine g_alloc rfl fun _ _ => ?_)
  rename_i p2 _ p5 _
  refine g_callV rfl (fun w hw => func_bad u hl k hk hbad _ _ w (hg0.keep keeps_global hw.chg) (hf0.keep keeps_func hw.chg) (hways.keep hw.chg)) ?_
  unfold zeroFn
  repeat (first | refine g_op rfl ?_ | refine g_then ?_ | refine g_nil ?_ | refine g_region ?_ | refine g_seq ?_ | refine g_alloc rfl fun _ _ => ?_ | refine g_storeAgg ?_)
  rename_i p6 _ p7 _
  refine g_cond (fun h1 => ?_) (fun h1 => ?_)
  · repeat (refine g_seq ?_)
    refine g_drawW [(4, .slice none 0 0), (5, .pointer (some ⟨p5, 0, none⟩))] [Ent.box p5 [.int .i64 (askedL u k).1, .int .i64 (askedL u k).2] 29] mixed ?_ ?_
    · repeat' (first | refine g_any0 (by decide +kernel) ?_ | refine g_any (by decide +kernel) ?_ | refine any_nil | refine any_skip (by decide +kernel) ?_ | refine any_cons ?_ ?_ | refine g_op rfl ?_ | refine g_then ?_ | refine g_nil ?_ | refine g_opS rfl ?_ | refine g_storeAgg ?_)
      all_goals exact g_done (by repeat (first | exact trivial | refine ⟨rfl, ?_⟩)) (by simp)
    · repeat (first | refine g_then ?_ | refine g_ret ?_ | refine g_thenRet ?_)
      exact g_retTC rfl fun _ hw => ⟨rfl, hw.chg⟩
  · exact absurd h1 (by simp [hbad])
theorem back_ok (u : LUnit) (hl : light u) (k : Nat) (hgood : (askedL u k).1 = 0) (X : LFunc) (hX : u.funcs[k]? = some X) (hok : GoodB X.blocks) (hpos : 0 < X.blocks.length) (hch : (checkL u).1 = 0) (g fs : Value) (w0 : World) (hg : SlAt w0 g 3 u.globals GlobalV) (hf : SlAt w0 fs 4 u.funcs FuncV) (hways : CellsAt w0 0 0 waysC) :
    RetK Tryd.prog 28 [.agg #[g, fs], .int .i64 k] w0 2 (backL X.blocks) PairV fun v => .tuple #[v, .agg #[.int .i64 0, .int .i64 0]] := by
  classical
  have hg0 := hg
  have hf0 := hf
  obtain ⟨ga, gn, gc, gb, go, rfl, _⟩ := hg
  obtain ⟨fa, fn, fc, fb, fo, rfl, _⟩ := hf
  have hlx := hl.2 X (List.mem_of_getElem? hX)
  have h24 := hlx.1
  obtain ⟨bv, hbv, hfc⟩ := func_ok u hl k hgood _ _ X hX w0 hg0 hf0 hways
  have hbv0 := hbv
  obtain ⟨ba, n, bc, bb, bo', rfl, hn, hnc, hnb, hbc, hba, hel⟩ := hbv
  obtain ⟨R, hXR, hR, hFO⟩ := check_func hch hX
  refine ret_enter Tryd.func28 rfl Tryd.ntmps28 rfl (Wd.nil NoS w0) ?_
  repeat (first | refine g_op rfl ?_ | refine g_then ?_ | refine g_nil ?_ | refine g_region ?_ | refine g_seq ?_ | refine g_box rfl fun _ _ => ?_ | refine g_alloc rfl fun _ _ => ?_)
  rename_i p2 _ p5 _
  refine g_callV rfl (fun w hw => hfc w hw.chg) ?_
  repeat (first | refine g_op rfl ?_ | refine g_then ?_ | refine g_nil ?_ | refine g_region ?_ | refine g_seq ?_ | refine g_alloc rfl fun _ _ => ?_ | refine g_storeAgg ?_ | refine g_skip ?_ | refine g_condF ?_)
  rename_i p6 _ p7 _
  refine g_drawE (fun z : Option Addr × Nat × (Nat → Prop) => [(4, .slice z.1 (backL X.blocks).length z.2.1), (5, .pointer (some ⟨p5, 0, none⟩))]) (fun z => [⟨z.2.2, fun w => SlAt w (.slice z.1 (backL X.blocks).length z.2.1) 2 (backL X.blocks) PairV⟩, Ent.box p5 [.int .i64 0, .int .i64 0] 29]) mixed ?_ fun z => ?_
  · repeat' (first | refine g_any (by decide +kernel) ?_ | refine any_nil | refine any_skip (by decide +kernel) ?_ | refine any_cons ?_ ?_ | refine g_op rfl ?_ | refine g_then ?_ | refine g_nil ?_)
    all_goals
      refine g_callK (s := 2) (l := backL X.blocks) (V := PairV) (mk := fun v => v) rfl (fun w hw => backOfK _ _ _ X.blocks _ ⟨_, _, _, rfl⟩ w (hbv0.keep keeps_block hw.chg) (by omega) hok (fun b B hB => (hFO.block b B hB).to) hpos) fun xa xc xp => ?_
      repeat' (first | refine g_any0 (by decide +kernel) ?_ | refine g_any (by decide +kernel) ?_ | refine any_nil | refine any_skip (by decide +kernel) ?_ | refine any_cons ?_ ?_ | refine g_op rfl ?_ | refine g_then ?_ | refine g_nil ?_ | refine g_opS rfl ?_ | refine g_storeAgg ?_)
      all_goals exact g_doneE (xa, xc, xp) (by repeat (first | exact trivial | refine ⟨rfl, ?_⟩)) (by simp)
  · repeat (first | refine g_then ?_ | refine g_ret ?_)
    exact g_retTC rfl fun w hw => ⟨z, rfl, hw.sel [0] (by decide), trivial⟩
theorem idx_le {x : Int} : ∀ {l : List Int} {i : Nat}, l[i]? = some x → l.idxOf x ≤ i
  | [], i, h => by simp at h
  | y :: l, 0, h => by
    simp only [List.getElem?_cons_zero, Option.some.injEq] at h
    subst h
    simp
  | y :: l, i + 1, h => by
    rw [List.idxOf_cons]
    cases (y == x)
    · have := idx_le (l := l) (i := i) (by simpa using h)
      simpa using this
    · simp
def placeI (l : List Int) (x : Int) : Int := if x ∈ l then (l.idxOf x : Int) else -1
theorem placeI_c (v : Value) (l : List Int) (x : Int) (w0 : World) (hv : SlAt w0 v 1 l IntV) : RetV Tryd.prog 38 [v, .int .i64 x] w0 (.int .i64 (placeI l x)) := by
  obtain ⟨a, n, c, b, o, rfl, hn, hnc, hnb, hc, ha, hel⟩ := hv
  refine ret_enter Tryd.func38 rfl Tryd.ntmps38 rfl (Wd.nil NoS w0) ?_
  repeat (first | refine g_op rfl ?_ | refine g_then ?_ | refine g_nil ?_ | refine g_region ?_ | refine g_seq ?_ | refine g_block ?_)
  refine g_loop (fun (i : Nat) => i ≤ n ∧ ∀ j y, j < i → l[j]? = some y → y ≠ x) (fun i => [(5, .int .i64 i), (0, .slice a n c), (1, .int .i64 x)]) (fun _ => []) (fun i => n - i) 0 ⟨Nat.zero_le _, fun j y hj => by omega⟩ (g_done (by repeat (first | exact trivial | refine ⟨rfl, ?_⟩)) (by simp)) fun i ⟨hi, hall⟩ => ?_
  repeat (first | refine g_op rfl ?_ | refine g_then ?_ | refine g_nil ?_ | refine g_region ?_ | refine g_seq ?_)
  refine g_cond (fun h1 => ?_) (fun h1 => ?_)
  · have hlt : i < n := by simpa using h1
    obtain ⟨t, ht⟩ : ∃ t, l[i]? = some t := ⟨_, List.getElem?_eq_getElem (by omega)⟩
    have had : AddrIs a b o := ⟨ha (ne_of_get ht)⟩
    have hli : LtIs i n := ⟨hlt⟩
    obtain ⟨cs, hcs, rfl, _⟩ := hel i _ ht
    have hci : CellsIs w0 b (o + i * 1) _ := ⟨hcs⟩
    repeat (first | refine g_op rfl ?_ | refine g_then ?_ | refine g_nil ?_ | refine g_region ?_ | refine g_seq ?_ | refine g_block ?_ | refine g_skip ?_)
    refine g_cond (fun h2 => ?_) (fun h2 => ?_)
    · have h5 : t = x := by simpa using h2
      repeat (first | refine g_op rfl ?_ | refine g_then ?_ | refine g_nil ?_ | refine g_region ?_ | refine g_seq ?_ | refine g_ret ?_ | refine g_thenRet ?_ | refine g_blockRet ?_)
      refine g_retV rfl ?_
      subst h5
      unfold placeI
      rw [if_pos (List.mem_of_getElem? ht)]
      congr 1
      have h3 := List.idxOf_lt_length_of_mem (List.mem_of_getElem? ht)
      have h4 := List.getElem_idxOf h3
      have : ¬ l.idxOf t < i := fun hlt => hall _ _ hlt (List.getElem?_eq_getElem h3) h4
      have h6 := idx_le ht
      omega
    · have h5 : t ≠ x := by simpa using h2
      repeat (first | refine g_op rfl ?_ | refine g_then ?_ | refine g_nil ?_ | refine g_region ?_ | refine g_opS rfl ?_ | refine g_inBlock ?_ | refine g_skip ?_ | refine g_add rfl (by omega) (by omega) ?_)
      refine g_next (i + 1) ⟨hlt, fun j y hj hy => ?_⟩ (by omega) (by repeat (first | exact trivial | refine ⟨rfl, ?_⟩)) (by simp)
      by_cases e : j = i
      · subst e
        rw [ht] at hy
        exact fun e => h5 (by rw [← e]; exact Option.some.inj hy)
      · exact hall j y (by omega) hy
  · have hge : i = n := by have := h1; simp at this; omega
    repeat (first | refine g_op rfl ?_ | refine g_then ?_ | refine g_nil ?_ | refine g_region ?_ | refine g_seq ?_ | refine g_exit ?_ | refine g_thenExit ?_ | refine g_exitHere ?_ | refine g_ret ?_)
    refine g_retV rfl ?_
    unfold placeI
    rw [if_neg fun h => ?_]
    obtain ⟨j, hj⟩ := List.getElem?_of_mem h
    exact absurd rfl (hall j x (by have := (List.getElem?_eq_some_iff.1 hj).1; omega) hj)
theorem placeI_nat {l : List Nat} {x : Nat} : placeI (l.map fun x : Nat => (x : Int)) (x : Int) = if x ∈ l then (l.idxOf x : Int) else -1 := by
  unfold placeI
  have e : ((x : Int) ∈ l.map fun x : Nat => (x : Int)) ↔ x ∈ l := mem_ints
  by_cases h : x ∈ l
  · rw [if_pos h, if_pos (e.2 h)]
    congr 1
    have h1 := List.idxOf_lt_length_of_mem h
    have h2 := List.getElem_idxOf h1
    have h3 := idx_le (l := l.map fun x : Nat => (x : Int)) (x := (x : Int)) (i := l.idxOf x) (by rw [List.getElem?_map, List.getElem?_eq_getElem h1, h2]; rfl)
    have h4 := List.idxOf_lt_length_of_mem (e.2 h)
    have h5 := List.getElem_idxOf h4
    rw [List.getElem_map] at h5
    have h6 : l[(l.map fun x : Nat => (x : Int)).idxOf (x : Int)]'(by simpa using h4) = x := by omega
    have h7 : l.idxOf x ≤ (l.map fun x : Nat => (x : Int)).idxOf (x : Int) := by
      have key : ∀ (m : List Nat) (i : Nat), m[i]? = some x → m.idxOf x ≤ i := by
        intro m
        induction m with
        | nil => intro i hi; simp at hi
        | cons y m ih =>
          intro i hi
          cases i with
          | zero => simp at hi; subst hi; simp
          | succ i =>
            rw [List.idxOf_cons]
            cases (y == x)
            · have := ih i (by simpa using hi)
              simpa using this
            · simp
      exact key l _ (List.getElem?_eq_some_iff.2 ⟨by simpa using h4, h6⟩)
    omega
  · rw [if_neg h, if_neg (fun k => h (e.1 k))]
theorem refBack_c (nm pa re : Value) (bl : List LBlock) (bs : Value) (hbsl : ∃ a n c, bs = .slice a n c) (w0 : World) (hbs : SlAt w0 bs 6 bl BlockV) (hlen : bl.length ≤ 100) (hok : GoodB bl) (hpos : 0 < bl.length) :
    Ret Tryd.prog 31 [.agg #[nm, pa, re, bs]] w0 fun u w' => ∃ x : Option Addr × Nat, u = .slice x.1 (backL bl).length x.2 ∧ Wd NoS w0 [Ent.vec x.1 (backL bl).length x.2 69 2 ((backL bl).flatMap pairC)] w' ∧ True := by
  classical
  obtain ⟨ba, n, bc, rfl⟩ := hbsl
  obtain ⟨hn, hnc, hnb, bb, bo, hba, hel⟩ := hbs.at
  have hl := postL_len hpos
  have ho := orderL_ord hok hpos
  have hin := inIs (l := (postL bl).reverse) fun y hy => by have := postL_lt hok hpos (List.mem_reverse.1 hy); omega
  refine ret_enter Tryd.func31 rfl Tryd.ntmps31 rfl (Wd.nil NoS w0) ?_
  repeat (first | refine g_op rfl ?_ | refine g_then ?_ | refine g_nil ?_ | refine g_region ?_ | refine g_seq ?_ | refine g_box rfl fun _ _ => ?_)
  rename_i p1 _
  refine g_callE (val := fun x : Option Addr × Nat × (Nat → Prop) => .slice x.1 (postL bl).length x.2.1) (E := fun x => [⟨x.2.2, fun w => SlAt w (.slice x.1 (postL bl).length x.2.1) 1 ((orderL bl).map fun x : Nat => (x : Int)) IntV⟩]) (φ := fun _ => True) rfl (fun w hw =>
    (refOrder_c _ _ _ bl _ ⟨_, _, _, rfl⟩ w (hbs.keep keeps_block hw.chg) (by omega) hok hpos).mono fun v w' ⟨x, h1, h2, _⟩ => ⟨(x.1, x.2, _), h1, Wd.ints (by rw [map_intN]; exact h2) (by unfold orderL; simp) (by omega) hin, trivial⟩) fun y _ => ?_
  obtain ⟨oa, oc, op⟩ := y
  simp only [List.cons_append, List.nil_append]
  repeat (first | refine g_op rfl ?_ | refine g_then ?_ | refine g_nil ?_ | refine g_region ?_ | refine g_seq ?_ | refine g_block ?_)
  refine g_nilVec 69 2 ?_
  refine g_loop (fun (x : Nat × Option Addr × Nat) => x.1 ≤ n) (fun x => [(5, .int .i64 x.1), (4, .slice x.2.1 (backTo bl x.1).length x.2.2), (3, .slice oa (postL bl).length oc), (1, .pointer (some ⟨p1, 0, none⟩))]) (fun x => [Ent.vec x.2.1 (backTo bl x.1).length x.2.2 69 2 ((backTo bl x.1).flatMap pairC), (⟨op, fun w => SlAt w (.slice oa (postL bl).length oc) 1 ((orderL bl).map fun x : Nat => (x : Int)) IntV⟩ : Ent), Ent.box p1 [nm, pa, re, .slice ba n bc] 34]) (fun x => n - x.1) (0, none, 0) (Nat.zero_le _) (g_done (by repeat (first | exact trivial | refine ⟨rfl, ?_⟩)) (List.Sublist.refl _)) fun x hi => ?_
  obtain ⟨b, la, lc⟩ := x
  simp only at hi ⊢
  have hbl := backTo_len bl b
  have hbb : b * bl.length ≤ 100 * 100 := Nat.mul_le_mul (by omega) (by omega)
  repeat (first | refine g_op rfl ?_ | refine g_then ?_ | refine g_nil ?_ | refine g_region ?_ | refine g_seq ?_)
  refine g_cond (fun h1 => ?_) (fun h1 => ?_)
  · have hlt : b < n := by simpa using h1
    obtain ⟨B, hB⟩ : ∃ B, bl[b]? = some B := ⟨_, List.getElem?_eq_getElem (by omega)⟩
    have had : AddrIs ba bb bo := ⟨hba (ne_of_get hB)⟩
    have hlb : LtIs b n := ⟨hlt⟩
    obtain ⟨cs, hcs, pv, lv, tv, rfl, _, _, _, _, htv⟩ := hel b B hB
    have htv0 := htv
    obtain ⟨ta, tn, tc, _, _, rfl, _⟩ := htv0
    have hci : CellsIs w0 bb (bo + b * 6) _ := ⟨hcs⟩
    have htoOf := toOf_get hB
    repeat (first | refine g_op rfl ?_ | refine g_then ?_ | refine g_nil ?_ | refine g_region ?_ | refine g_seq ?_ | refine g_block ?_ | refine g_skip ?_)
    refine g_loop (fun (x : Nat × List (Nat × Nat) × Option Addr × Nat) => x.1 ≤ n ∧ x.2.1 = backTo bl b ++ (backRow bl b x.1).map fun t => (b, t)) (fun x => [(6, .int .i64 x.1), (4, .slice x.2.2.1 x.2.1.length x.2.2.2), (5, .int .i64 b), (3, .slice oa (postL bl).length oc), (1, .pointer (some ⟨p1, 0, none⟩))])
      (fun x => [Ent.vec x.2.2.1 x.2.1.length x.2.2.2 69 2 (x.2.1.flatMap pairC), (⟨op, fun w => SlAt w (.slice oa (postL bl).length oc) 1 ((orderL bl).map fun x : Nat => (x : Int)) IntV⟩ : Ent), Ent.box p1 [nm, pa, re, .slice ba n bc] 34]) (fun x => n - x.1) (0, backTo bl b, la, lc) ⟨Nat.zero_le _, by simp [backRow]⟩ (g_done (by repeat (first | exact trivial | refine ⟨rfl, ?_⟩)) (List.Sublist.refl _)) fun x ⟨hj, hL⟩ => ?_
    obtain ⟨t, L, la1, lc1⟩ := x
    simp only at hj hL ⊢
    have hLl : L.length ≤ 10200 := by
      rw [hL, List.length_append, List.length_map]
      have h2 := backRow_len bl b t
      omega
    have hrs := backRow_succ bl b t
    repeat (first | refine g_op rfl ?_ | refine g_then ?_ | refine g_nil ?_ | refine g_region ?_ | refine g_seq ?_)
    refine g_cond (fun h2 => ?_) (fun h2 => ?_)
    · have htl : t < n := by simpa using h2
      have hskip : ¬ BackE bl b t → L = backTo bl b ++ (backRow bl b (t + 1)).map fun t => (b, t) := fun hno => by
        rw [hrs, hL]; simp [hno]
      have hb1 : decide ((b : Int) ∈ (orderL bl).map fun x : Nat => (x : Int)) = decide (b ∈ orderL bl) := by rw [decide_eq_decide, mem_ints]
      repeat (first | refine g_op rfl ?_ | refine g_then ?_ | refine g_region ?_ | refine g_seq ?_ | refine g_block ?_ | refine g_skip ?_)
      refine g_callV rfl (fun w hw => has_c _ ((orderL bl).map fun x : Nat => (x : Int)) b w (hw.get (k := 1) rfl)) ?_
      rw [hb1]
      generalize hd1 : decide (b ∈ orderL bl) = d1
      cases d1
      · have hno : ¬ BackE bl b t := fun h => by have := (ho.mem b).2 h.1; simp [this] at hd1
        repeat (first | refine g_op rfl ?_ | refine g_then ?_ | refine g_nil ?_ | refine g_region ?_ | refine g_opS rfl ?_ | refine g_pass rfl ?_ | refine g_inBlock ?_ | refine g_skip ?_ | refine g_condF ?_ | refine g_add rfl (by omega) (by omega) ?_)
        exact g_next (t + 1, L, la1, lc1) ⟨by simp only; omega, hskip hno⟩ (by simp only; omega) (by repeat (first | exact trivial | refine ⟨rfl, ?_⟩)) (List.Sublist.refl _)
      have hbo : b ∈ orderL bl := by simpa using hd1
      repeat (first | refine g_op rfl ?_ | refine g_open ?_)
      refine g_callV rfl (fun w hw => has_c _ B.to t w (htv.keep keeps_int hw.chg)) ?_
      generalize hd2 : decide ((t : Int) ∈ B.to) = d2
      cases d2
      · have hno : ¬ BackE bl b t := fun h => by have := h.2.1; unfold Edge at this; rw [htoOf] at this; simp [this] at hd2
        repeat (first | refine g_op rfl ?_ | refine g_then ?_ | refine g_nil ?_ | refine g_region ?_ | refine g_opS rfl ?_ | refine g_pass rfl ?_ | refine g_inBlock ?_ | refine g_skip ?_ | refine g_condF ?_ | refine g_add rfl (by omega) (by omega) ?_)
        exact g_next (t + 1, L, la1, lc1) ⟨by simp only; omega, hskip hno⟩ (by simp only; omega) (by repeat (first | exact trivial | refine ⟨rfl, ?_⟩)) (List.Sublist.refl _)
      have hte : Edge bl b t := by unfold Edge; rw [htoOf]; simpa using hd2
      have hbk := placeL_back hok hpos hte
      have hb0 : 0 ≤ placeL bl b := by unfold placeL; rw [if_pos hbo]; omega
      repeat (first | refine g_op rfl ?_ | refine g_open ?_)
      refine g_callV rfl (fun w hw => placeI_c _ ((orderL bl).map fun x : Nat => (x : Int)) t w (hw.get (k := 1) rfl)) ?_
      repeat (first | refine g_op rfl ?_ | refine g_open ?_)
      refine g_callV rfl (fun w hw => placeI_c _ ((orderL bl).map fun x : Nat => (x : Int)) b w (hw.get (k := 1) rfl)) ?_
      rw [placeI_nat, placeI_nat, show (if t ∈ orderL bl then ((orderL bl).idxOf t : Int) else -1) = placeL bl t from rfl, show (if b ∈ orderL bl then ((orderL bl).idxOf b : Int) else -1) = placeL bl b from rfl]
      repeat (first | refine g_op rfl ?_ | refine g_then ?_ | refine g_nil ?_ | refine g_open ?_)
      refine g_cond (fun h3 => ?_) (fun h3 => ?_)
      · have hyes : BackE bl b t := hbk.1 ⟨hb0, by simpa using h3⟩
        repeat (first | refine g_op rfl ?_ | refine g_region ?_ | refine g_build1 rfl rfl fun _ _ => ?_)
        rename_i bt _
        refine g_append rfl rfl (by omega) (by omega) fun a' c' => ?_
        rw [show L.flatMap pairC ++ [.int .i64 (b : Int), .int .i64 (t : Int)] = (L ++ [(b, t)]).flatMap pairC by simp [pairC], show L.length + 1 = (L ++ [(b, t)]).length by simp]
        repeat (first | refine g_op rfl ?_ | refine g_then ?_ | refine g_nil ?_ | refine g_region ?_ | refine g_opS rfl ?_ | refine g_inBlock ?_ | refine g_add rfl (by omega) (by omega) ?_)
        refine g_next (t + 1, L ++ [(b, t)], a', c') ⟨by simp only; omega, ?_⟩ (by simp only; omega) (by repeat (first | exact trivial | refine ⟨rfl, ?_⟩)) (List.Sublist.cons _ (List.Sublist.refl _))
        simp only
        rw [hrs, hL]
        simp [hyes]
      · have hno : ¬ BackE bl b t := fun h => by have := (hbk.2 h).2; simp [this] at h3
        repeat (first | refine g_op rfl ?_ | refine g_then ?_ | refine g_nil ?_ | refine g_region ?_ | refine g_opS rfl ?_ | refine g_inBlock ?_ | refine g_skip ?_ | refine g_add rfl (by omega) (by omega) ?_)
        exact g_next (t + 1, L, la1, lc1) ⟨by simp only; omega, hskip hno⟩ (by simp only; omega) (by repeat (first | exact trivial | refine ⟨rfl, ?_⟩)) (List.Sublist.refl _)
    · have hge : t = bl.length := by have := h2; simp at this; omega
      repeat (first | refine g_op rfl ?_ | refine g_then ?_ | refine g_nil ?_ | refine g_region ?_ | refine g_opS rfl ?_ | refine g_inBlock ?_ | refine g_add rfl (by omega) (by omega) ?_ | refine g_exit ?_ | refine g_thenExit ?_ | refine g_exitHere ?_)
      rw [hge, ← backTo_succ] at hL
      subst hL
      exact g_next (b + 1, la1, lc1) (by simp only; omega) (by simp only; omega) (by repeat (first | exact trivial | refine ⟨rfl, ?_⟩)) (List.Sublist.refl _)
  · have hge : b = bl.length := by have := h1; simp at this; omega
    repeat (first | refine g_op rfl ?_ | refine g_then ?_ | refine g_nil ?_ | refine g_region ?_ | refine g_seq ?_ | refine g_exit ?_ | refine g_thenExit ?_ | refine g_exitHere ?_ | refine g_ret ?_)
    exact g_ret1 rfl fun w hw => ⟨(la, lc), by rw [hge]; rfl, by rw [hge] at hw; exact hw.sel [0] (by decide), trivial⟩
theorem refBackK (nm pa re : Value) (bl : List LBlock) (bs : Value) (hbsl : ∃ a n c, bs = .slice a n c) (w0 : World) (hbs : SlAt w0 bs 6 bl BlockV) (hlen : bl.length ≤ 100) (hok : GoodB bl) (hpos : 0 < bl.length) :
    RetK Tryd.prog 31 [.agg #[nm, pa, re, bs]] w0 2 (backL bl) PairV fun v => v :=
  retK_of (refBack_c nm pa re bl bs hbsl w0 hbs hlen hok hpos) fun x _ => ⟨x.1, x.2, rfl, fun w2 hw => flat_sl hw (k := 0) rfl pairC_len (by have := backL_len hlen; omega)⟩
theorem twos_c (a b : Value) (l m : List (Nat × Nat)) (w0 : World) (ha : SlAt w0 a 2 l PairV) (hb : SlAt w0 b 2 m PairV) : RetV Tryd.prog 30 [a, b] w0 (.bool (decide (l = m))) := by
  obtain ⟨aa, an, ac, ab, ao, rfl, han, hanc, hanb, hac, haa, hael⟩ := ha
  obtain ⟨ba, bn, bc, bb, bo, rfl, hbn, hbnc, hbnb, hbc, hba, hbel⟩ := hb
  refine ret_enter Tryd.func30 rfl Tryd.ntmps30 rfl (Wd.nil NoS w0) ?_
  repeat (first | refine g_op rfl ?_ | refine g_then ?_ | refine g_nil ?_ | refine g_region ?_ | refine g_seq ?_)
  refine g_cond (fun h1 => ?_) (fun h1 => ?_)
  · have hne : an ≠ bn := by have := h1; simp at this; omega
    repeat (first | refine g_then ?_ | refine g_nil ?_ | refine g_region ?_ | refine g_seq ?_ | refine g_opS rfl ?_ | refine g_ret ?_ | refine g_thenRet ?_)
    refine g_retV rfl ?_
    rw [decide_eq_false fun e => hne (by rw [han, hbn, e])]
  have hnn : an = bn := by have := h1; simp at this; omega
  repeat (first | refine g_op rfl ?_ | refine g_then ?_ | refine g_nil ?_ | refine g_region ?_ | refine g_seq ?_ | refine g_block ?_ | refine g_skip ?_)
  refine g_loop (fun (i : Nat) => i ≤ an ∧ l.take i = m.take i) (fun i => [(5, .int .i64 i), (0, .slice aa an ac), (1, .slice ba bn bc)]) (fun _ => []) (fun i => an - i) 0 ⟨Nat.zero_le _, by simp⟩ (g_done (by repeat (first | exact trivial | refine ⟨rfl, ?_⟩)) (by simp)) fun i ⟨hi, hall⟩ => ?_
  repeat (first | refine g_op rfl ?_ | refine g_then ?_ | refine g_nil ?_ | refine g_region ?_ | refine g_seq ?_)
  refine g_cond (fun h2 => ?_) (fun h2 => ?_)
  · have hlt : i < an := by simpa using h2
    obtain ⟨x, hx⟩ : ∃ x, l[i]? = some x := ⟨_, List.getElem?_eq_getElem (by omega)⟩
    obtain ⟨y, hy⟩ : ∃ y, m[i]? = some y := ⟨_, List.getElem?_eq_getElem (by omega)⟩
    have hada : AddrIs aa ab ao := ⟨haa (ne_of_get hx)⟩
    have hadb : AddrIs ba bb bo := ⟨hba (ne_of_get hy)⟩
    have hli : LtIs i an := ⟨hlt⟩
    have hlj : LtIs i bn := ⟨by omega⟩
    obtain ⟨cs, hcs, rfl⟩ := hael i x hx
    obtain ⟨ds, hds, rfl⟩ := hbel i y hy
    have hci : CellsIs w0 ab (ao + i * 2) [.int .i64 (x.1 : Int), .int .i64 (x.2 : Int)] := ⟨hcs⟩
    have hcj : CellsIs w0 bb (bo + i * 2) [.int .i64 (y.1 : Int), .int .i64 (y.2 : Int)] := ⟨hds⟩
    repeat (first | refine g_then ?_ | refine g_seq ?_ | refine g_block ?_ | refine g_skip ?_)
    refine g_draw mixed (by kernel_rfl) ?_
    repeat (first | refine q_op rfl ?_ | refine q_nil ?_)
    repeat (refine g_then ?_)
    have hxy : (decide ((x.1 : Int) = (y.1 : Int)) && decide ((x.2 : Int) = (y.2 : Int))) = decide (x = y) := by
      obtain ⟨x1, x2⟩ := x
      obtain ⟨y1, y2⟩ := y
      simp only [Prod.mk.injEq, Int.natCast_inj]
      by_cases h1 : x1 = y1 <;> by_cases h2 : x2 = y2 <;> simp [h1, h2]
    rw [hxy]
    refine g_cond (fun h3 => ?_) (fun h3 => ?_)
    · have hne : x ≠ y := by simpa using h3
      repeat (first | refine g_op rfl ?_ | refine g_then ?_ | refine g_nil ?_ | refine g_region ?_ | refine g_seq ?_ | refine g_ret ?_ | refine g_thenRet ?_ | refine g_blockRet ?_)
      refine g_retV rfl ?_
      rw [decide_eq_false fun e => hne (by rw [e, hy] at hx; exact (Option.some.inj hx).symm)]
    · have he : x = y := by simpa using h3
      repeat (first | refine g_op rfl ?_ | refine g_then ?_ | refine g_nil ?_ | refine g_region ?_ | refine g_opS rfl ?_ | refine g_inBlock ?_ | refine g_skip ?_ | refine g_add rfl (by omega) (by omega) ?_)
      refine g_next (i + 1) ⟨hlt, ?_⟩ (by omega) (by repeat (first | exact trivial | refine ⟨rfl, ?_⟩)) (by simp)
      rw [List.take_add_one, List.take_add_one, hall, hx, hy, he]
  · have hge : i = an := by have := h2; simp at this; omega
    repeat (first | refine g_op rfl ?_ | refine g_then ?_ | refine g_nil ?_ | refine g_region ?_ | refine g_seq ?_ | refine g_exit ?_ | refine g_thenExit ?_ | refine g_exitHere ?_ | refine g_ret ?_)
    refine g_retV rfl ?_
    rw [hge, han, List.take_length, ← han, hnn, hbn, List.take_length] at hall
    rw [decide_eq_true hall]
theorem ringBack_c (w0 : World) (hways : CellsAt w0 0 0 waysC) : RetV Tryd.prog 32 [] w0 (.bool true) := by
  refine ret_enter Tryd.func32 rfl Tryd.ntmps32 rfl (Wd.nil NoS w0) ?_
  repeat (first | refine g_op rfl ?_ | refine g_then ?_ | refine g_nil ?_ | refine g_region ?_ | refine g_seq ?_)
  refine g_callK (s := 4) (l := ringU.funcs) (V := FuncV) (mk := fun v => .agg #[.slice none 0 0, v]) rfl (fun w hw => ring_c w) fun ra rc rp => ?_
  skip
  refine g_callK (s := 2) (l := backL ringB) (V := PairV) (mk := fun v => .tuple #[v, .agg #[.int .i64 0, .int .i64 0]]) rfl (fun w hw => back_ok ringU ring_light 0 (congrArg Prod.fst ring_asked) ringF rfl ring_good (by decide) (by rw [ring_check]) _ _ w (nil_sl _ _ _) (hw.get (k := 0) rfl) (hways.keep hw.chg)) fun ba bc bp => ?_
  rw [ring_back', show ([((1 : Nat), (1 : Nat))] : List (Nat × Nat)).length = 1 from rfl]
  refine g_know 0 rfl (φ := ∃ b o, ba = some ⟨b, o, none⟩) (fun w h => by
    obtain ⟨_, _, _, b, o, ha, _⟩ := SlAt.at h
    exact ⟨b, o, ha (by simp)⟩) fun ⟨b, o, e⟩ => ?_
  subst e
  have hoc : ∀ X : Ent, OwnCells [X, ⟨bp, fun w => SlAt w (.slice (some ⟨b, o, none⟩) 1 bc) 2 [((1 : Nat), (1 : Nat))] PairV⟩, ⟨rp, fun w => SlAt w (.slice ra ringU.funcs.length rc) 4 ringU.funcs FuncV⟩] b (o + 0 * 2) [.int .i64 1, .int .i64 1] := fun X => ⟨fun _ _ w hw => by
    have h : SlAt w (.slice (some ⟨b, o, none⟩) 1 bc) 2 [((1 : Nat), (1 : Nat))] PairV := hw.get (k := 1) rfl
    obtain ⟨cs, hc, rfl⟩ := h.known 0 (1, 1) rfl
    exact hc⟩
  have hl0 : LtIs 0 1 := ⟨by omega⟩
  repeat (first | refine g_op rfl ?_ | refine g_then ?_ | refine g_nil ?_ | refine g_region ?_ | refine g_seq ?_ | refine g_open ?_ | refine g_alloc rfl fun _ _ => ?_ | refine g_storeAgg ?_)
  rw [show decide (((1 : Nat) : Int) = 1) = true from rfl, show decide ((0 : Int) = 0) = true from rfl]
  repeat (first | refine g_op rfl ?_ | refine g_then ?_ | refine g_nil ?_ | refine g_opS rfl ?_ | refine g_open ?_ | refine g_ret ?_)
  exact g_retV rfl rfl
theorem backLaw_c (u : LUnit) (k : Int) (hk : inI k) (g fs : Value) (w0 : World) (hg : SlAt w0 g 3 u.globals GlobalV) (hf : SlAt w0 fs 4 u.funcs FuncV) (hways : CellsAt w0 0 0 waysC) :
    RetV Tryd.prog 5 [.agg #[g, fs], .int .i64 k] w0 (.bool true) := by
  classical
  have hg0 := hg
  have hf0 := hf
  obtain ⟨ga, gn, gc, gb, go, rfl, _⟩ := hg
  obtain ⟨fa, fn, fc, fb, fo, rfl, hfn, hfnc, hfnb, hfc, hfa, hfel⟩ := hf
  refine ret_enter Tryd.func5 rfl Tryd.ntmps5 rfl (Wd.nil NoS w0) ?_
  repeat (first | refine g_op rfl ?_ | refine g_then ?_ | refine g_nil ?_ | refine g_region ?_ | refine g_seq ?_ | refine g_box rfl fun _ _ => ?_)
  rename_i p2 _
  refine g_callE (val := fun b : Bool => .bool b) (E := fun _ => []) (φ := fun b => b = false → light u) rfl (fun w hw => heavy_c u _ _ w (hf0.keep keeps_func hw.chg) ⟨_, _, _, rfl⟩) fun b hb => ?_
  simp only [List.nil_append]
  cases b
  case true =>
    repeat (first | refine g_then ?_ | refine g_nil ?_ | refine g_region ?_ | refine g_seq ?_ | refine g_opS rfl ?_ | refine g_condT ?_ | refine g_ret ?_ | refine g_thenRet ?_)
    exact g_retV rfl rfl
  have hl := hb rfl
  repeat (first | refine g_op rfl ?_ | refine g_then ?_ | refine g_nil ?_ | refine g_region ?_ | refine g_seq ?_ | refine g_skip ?_ | refine g_condF ?_)
  by_cases hbad : (askedL u k).1 ≠ 0
  · refine g_callV rfl (fun w hw => back_bad u hl k hk hbad _ _ w (hg0.keep keeps_global hw.chg) (hf0.keep keeps_func hw.chg) (hways.keep hw.chg)) ?_
    repeat (first | refine g_op rfl ?_ | refine g_then ?_ | refine g_nil ?_ | refine g_region ?_ | refine g_seq ?_ | refine g_alloc rfl fun _ _ => ?_ | refine g_storeAgg ?_)
    refine g_callV rfl (fun w hw => asked_c u hl k _ _ w (hg0.keep keeps_global hw.chg) (hf0.keep keeps_func hw.chg) (hways.keep hw.chg)) ?_
    repeat (first | refine g_op rfl ?_ | refine g_then ?_ | refine g_nil ?_ | refine g_region ?_ | refine g_seq ?_ | refine g_alloc rfl fun _ _ => ?_ | refine g_storeAgg ?_)
    refine g_cond (fun h1 => ?_) (fun h1 => ?_)
    · repeat (first | refine g_op rfl ?_ | refine g_region ?_ | refine g_seq ?_)
      rw [show (decide ((askedL u k).1 = (askedL u k).1) && decide ((askedL u k).2 = (askedL u k).2)) = true by simp]
      repeat (first | refine g_op rfl ?_ | refine g_then ?_ | refine g_nil ?_ | refine g_opS rfl ?_ | refine g_open ?_ | refine g_ret ?_ | refine g_thenRet ?_)
      exact g_retV rfl rfl
    · exact absurd h1 (by simp [hbad])
  have hgood : (askedL u k).1 = 0 := by simpa using hbad
  obtain ⟨hch, has, i, X, rfl, hX, hok⟩ := asked_ok hgood
  have hpos := check_pos hch hX
  have hil : i < fn := by rw [hfn]; exact (List.getElem?_eq_some_iff.1 hX).1
  have had : AddrIs fa fb fo := ⟨hfa (ne_of_get hX)⟩
  have hli : LtIs i fn := ⟨hil⟩
  obtain ⟨cs, hcs, bv, rfl, hpi, hri, hbv⟩ := hfel i X hX
  have hci : CellsIs w0 fb (fo + i * 4) _ := ⟨hcs⟩
  have hbv0 := hbv
  obtain ⟨ba, bn, bc, _, _, rfl, hbn, _⟩ := hbv
  have h24 := (hl.2 X (List.mem_of_getElem? hX)).1
  refine g_callK (s := 2) (l := backL X.blocks) (V := PairV) (mk := fun v => .tuple #[v, .agg #[.int .i64 0, .int .i64 0]]) rfl (fun w hw => back_ok u hl i hgood X hX hok hpos hch _ _ w (hg0.keep keeps_global hw.chg) (hf0.keep keeps_func hw.chg) (hways.keep hw.chg)) fun ra rc rp => ?_
  repeat (first | refine g_op rfl ?_ | refine g_then ?_ | refine g_nil ?_ | refine g_region ?_ | refine g_seq ?_ | refine g_alloc rfl fun _ _ => ?_ | refine g_storeAgg ?_)
  rename_i p6 _
  refine g_callV rfl (fun w hw => asked_c u hl i _ _ w (hg0.keep keeps_global hw.chg) (hf0.keep keeps_func hw.chg) (hways.keep hw.chg)) ?_
  rw [has]
  repeat (first | refine g_op rfl ?_ | refine g_then ?_ | refine g_nil ?_ | refine g_region ?_ | refine g_seq ?_ | refine g_open ?_ | refine g_alloc rfl fun _ _ => ?_ | refine g_storeAgg ?_ | refine g_skip ?_ | refine g_condF ?_)
  rename_i p7 _
  refine g_callK (s := 2) (l := backL X.blocks) (V := PairV) (mk := fun v => v) rfl (fun w hw => refBackK _ _ _ X.blocks _ ⟨_, _, _, rfl⟩ w (hbv0.keep keeps_block hw.chg) (by omega) hok hpos) fun sa sc sp => ?_
  refine g_open ?_
  refine g_callV rfl (fun w hw => twos_c _ _ (backL X.blocks) (backL X.blocks) w ?_ ?_) ?_
  · exact hw.get (k := 3) rfl
  · exact hw.get (k := 0) rfl
  rw [show decide (backL X.blocks = backL X.blocks) = true by simp]
  try simp only [decide_true, Bool.and_self]
  repeat (first | refine g_op rfl ?_ | refine g_open ?_)
  refine g_callV rfl (fun w hw => ringBack_c w (hways.keep hw.chg)) ?_
  repeat (first | refine g_op rfl ?_ | refine g_then ?_ | refine g_nil ?_ | refine g_opS rfl ?_ | refine g_ret ?_)
  exact g_retV rfl rfl
end Go.Proofs.YtoahickmkkcneaaDoor

/- dom.Table: what it returns; the law DomTables, walked. -/
namespace Go.Proofs.YtoahickmkkcneaaDoor
open Go Go.RowKit
attribute [local irreducible] wpListIn Code.wpIn Exit.then Exit.inBlock bodyPost wpQuiet wpAnyIn wpAnyH bodyPostM
set_option maxHeartbeats 8000000

section
variable {P : Program} {ro : Option Nat} {N : Nat} {ds : List Deferred} {S : Nat → Prop} {w0 w : World} {L : List (Nat × Value)} {H : List Ent} {ops : Array Oper} {rest : List Oper} {Q : Exit → Act → World → Prop}
/-- a call that is handed piece number k -/
theorem g_callAt {α : Type} {val : α → Value} {E : α → Ent} {φ : α → Prop} {d ty f : Nat} (k : Nat) {e : Ent} {args : List Operand} {vs : List Value} {tys : Array Nat} {pos : String} {aft : Array Go.Edge} [h : EnterOk P f] [hx : Evs L args vs] (hk : H[k]? = some e) (hd : okPut d N L = true)
    (hc : ∀ w, Wd S w0 ([e] ++ H.eraseIdx k) w → Ret P f vs w fun u w' => ∃ x, u = val x ∧ Wd (fps [e]) w [E x] w' ∧ φ x)
    (kk : ∀ x, φ x → G N ds S w0 ((d, val x) :: L) (H.set k (E x)) (wpListIn (FW ro) 0 P ops Q rest)) : G N ds S w0 L H (wpListIn (FW ro) 0 P ops Q (⟨some d, .call { callee := .value (.func f), args := args.toArray, argTypes := tys }, ty, pos, aft, none⟩ :: rest)) :=
  g_permH (perm_pull hk) (g_callS (H1 := [e]) (H2 := H.eraseIdx k) (E := fun x => [E x]) hd hc fun x hx => g_permH (perm_set hk (E x)) (kk x hx))
end
/-- those that rule b from b up to, but not with, z -/
structure ChainUp (bl : List LBlock) (b : Nat) (z : Int) (l : List Int) : Prop where
  nodup : l.Nodup
  mem : ∀ x : Int, x ∈ l ↔ ∃ c : Nat, x = c ∧ Dom bl c b ∧ ¬ DomI bl c z
  len : l.length + wayM bl z ≤ bl.length
theorem chain_start {bl : List LBlock} {b : Nat} : ChainUp bl b b [] := by
  classical
  refine ⟨by simp, fun x => ⟨fun h => (by cases h), fun ⟨c, _, h, hn⟩ => absurd ⟨b, rfl, h⟩ hn⟩, ?_⟩
  have h1 := List.length_filter_le (fun c => decide (Dom bl c b)) (List.range bl.length)
  rw [List.length_range] at h1
  unfold wayM
  rw [if_neg (by omega)]
  simpa [domTo] using h1
theorem domI_self {bl : List LBlock} {a : Nat} : ¬ DomI bl a (treeN bl a) := fun ⟨c, hc, h⟩ => by
  by_cases hx : ∃ d, IDom bl d a
  · obtain ⟨d, hdd⟩ := hx
    rw [treeN_eq hdd] at hc
    have : d = c := by omega
    subst this
    exact hdd.2.1 (hdd.1.antisymm h)
  · rw [treeN_none fun c hc => hx ⟨c, hc⟩] at hc
    omega
theorem chain_step {bl : List LBlock} (hok : GoodB bl) (h0 : 0 < bl.length) {b a : Nat} {l : List Int} (had : Dom bl a b) (h : ChainUp bl b a l) : ChainUp bl b (treeN bl a) (l ++ [(a : Int)]) := by
  have hda : ∀ c, DomI bl c (a : Int) ↔ Dom bl c a := fun c => ⟨fun ⟨d, e, h⟩ => (show a = d by omega) ▸ h, fun h => ⟨a, rfl, h⟩⟩
  have hd : ∀ c, Dom bl c a ↔ (DomI bl c (treeN bl a) ∨ c = a) := fun c => domI_tree hok h0 had.1
  have hnot : (a : Int) ∉ l := fun hm => by
    obtain ⟨c, e, _, hn⟩ := (h.mem _).1 hm
    have : a = c := by omega
    subst this
    exact hn ((hda a).2 (.refl had.1))
  refine ⟨List.nodup_append.2 ⟨h.nodup, by simp, fun x hx y hy e => hnot (by rw [List.mem_singleton.1 hy] at e; rw [← e]; exact hx)⟩, fun x => ?_, ?_⟩
  · rw [List.mem_append, List.mem_singleton, h.mem]
    constructor
    · rintro (⟨c, e, h1, h2⟩ | e)
      · exact ⟨c, e, h1, fun k => h2 ((hda c).2 ((hd c).2 (.inl k)))⟩
      · exact ⟨a, e, had, domI_self⟩
    · rintro ⟨c, e, h1, h2⟩
      by_cases hc : Dom bl c a
      · rcases (hd c).1 hc with k | k
        · exact absurd k h2
        · subst k; exact .inr e
      · exact .inl ⟨c, e, h1, fun k => hc ((hda c).1 k)⟩
  · have := wayM_lt hok h0 had.1
    have := h.len
    rw [List.length_append, List.length_singleton]
    omega
theorem chain_end {bl : List LBlock} (hok : GoodB bl) (h0 : 0 < bl.length) {b : Nat} {l : List Int} (h : ChainUp bl b (-1) l) : sorted l = (domTo bl b bl.length).map fun x : Nat => (x : Int) := by
  classical
  refine sorted_filter h.nodup fun x => ?_
  rw [h.mem]
  exact ⟨fun ⟨c, e, h1, _⟩ => ⟨c, e, hok.rch h0 h1.1, by simpa using h1⟩, fun ⟨c, e, _, h1⟩ => ⟨c, e, by simpa using h1, fun ⟨d, hd, _⟩ => by omega⟩⟩
open Classical in
noncomputable def tabAt (bl : List LBlock) (ps : List Nat) (j : Nat) : List Int := if j ∈ ps then (domTo bl j bl.length).map fun x : Nat => (x : Int) else []
theorem table_bad (u : LUnit) (hl : light u) (k : Int) (hk : inI k) (hbad : (askedL u k).1 ≠ 0) (g fs : Value) (w0 : World) (hg : SlAt w0 g 3 u.globals GlobalV) (hf : SlAt w0 fs 4 u.funcs FuncV) (hways : CellsAt w0 0 0 waysC) :
    RetV Tryd.prog 33 [.agg #[g, fs], .int .i64 k] w0 (.tuple #[.slice none 0 0, .agg #[.int .i64 (askedL u k).1, .int .i64 (askedL u k).2]]) := by
  have hg0 := hg
  have hf0 := hf
  obtain ⟨ga, gn, gc, gb, go, rfl, _⟩ := hg
  obtain ⟨fa, fn, fc, fb, fo, rfl, _⟩ := hf
  refine ret_enter Tryd.func33 rfl Tryd.ntmps33 rfl (Wd.nil NoS w0) ?_
  repeat (first | refine g_op rfl ?_ | refine g_then ?_ | refine g_nil ?_ | refine g_region ?_ | refine g_seq ?_ | refine g_box rfl fun _ _ => ?_ | refine g_alloc rfl fun _ _ => ?_)
  rename_i p2 _ p5 _
  refine g_callV rfl (fun w hw => func_bad u hl k hk hbad _ _ w (hg0.keep keeps_global hw.chg) (hf0.keep keeps_func hw.chg) (hways.keep hw.chg)) ?_
  unfold zeroFn
  repeat (first | refine g_op rfl ?_ | refine g_then ?_ | refine g_nil ?_ | refine g_region ?_ | refine g_seq ?_ | refine g_alloc rfl fun _ _ => ?_ | refine g_storeAgg ?_)
  rename_i p6 _ p7 _
  refine g_cond (fun h1 => ?_) (fun h1 => ?_)
  · repeat (refine g_seq ?_)
    refine g_drawW [(4, .slice none 0 0), (5, .pointer (some ⟨p5, 0, none⟩))] [Ent.box p5 [.int .i64 (askedL u k).1, .int .i64 (askedL u k).2] 29] mixed ?_ ?_
    · repeat' (first | refine g_any0 (by decide +kernel) ?_ | refine g_any (by decide +kernel) ?_ | refine any_nil | refine any_skip (by decide +kernel) ?_ | refine any_cons ?_ ?_ | refine g_op rfl ?_ | refine g_then ?_ | refine g_nil ?_ | refine g_opS rfl ?_ | refine g_storeAgg ?_)
      all_goals exact g_done (by repeat (first | exact trivial | refine ⟨rfl, ?_⟩)) (by simp)
    · repeat (first | refine g_then ?_ | refine g_ret ?_ | refine g_thenRet ?_)
      exact g_retTC rfl fun _ hw => ⟨rfl, hw.chg⟩
  · exact absurd h1 (by simp [hbad])
theorem table_ok (u : LUnit) (hl : light u) (k : Nat) (hgood : (askedL u k).1 = 0) (X : LFunc) (hX : u.funcs[k]? = some X) (hok : GoodB X.blocks) (hpos : 0 < X.blocks.length) (hch : (checkL u).1 = 0) (g fs : Value) (w0 : World) (hg : SlAt w0 g 3 u.globals GlobalV) (hf : SlAt w0 fs 4 u.funcs FuncV) (hways : CellsAt w0 0 0 waysC) :
    RetK Tryd.prog 33 [.agg #[g, fs], .int .i64 k] w0 1 (domL X.blocks) RowV fun v => .tuple #[v, .agg #[.int .i64 0, .int .i64 0]] := by
  classical
  have hg0 := hg
  have hf0 := hf
  obtain ⟨ga, gn, gc, gb, go, rfl, _⟩ := hg
  obtain ⟨fa, fn, fc, fb, fo, rfl, _⟩ := hf
  have hlx := hl.2 X (List.mem_of_getElem? hX)
  have h24 := hlx.1
  obtain ⟨bv, hbv, hfc⟩ := func_ok u hl k hgood _ _ X hX w0 hg0 hf0 hways
  have hbv0 := hbv
  obtain ⟨ba, n, bc, bb, bo', rfl, hn, hnc, hnb, hbc, hba, hel⟩ := hbv
  obtain ⟨R, hXR, hR, hFO⟩ := check_func hch hX
  refine ret_enter Tryd.func33 rfl Tryd.ntmps33 rfl (Wd.nil NoS w0) ?_
  repeat (first | refine g_op rfl ?_ | refine g_then ?_ | refine g_nil ?_ | refine g_region ?_ | refine g_seq ?_ | refine g_box rfl fun _ _ => ?_ | refine g_alloc rfl fun _ _ => ?_)
  rename_i p2 _ p5 _
  refine g_callV rfl (fun w hw => hfc w hw.chg) ?_
  repeat (first | refine g_op rfl ?_ | refine g_then ?_ | refine g_nil ?_ | refine g_region ?_ | refine g_seq ?_ | refine g_alloc rfl fun _ _ => ?_ | refine g_storeAgg ?_ | refine g_skip ?_ | refine g_condF ?_)
  rename_i p6 _ p7 _
  refine g_callE (val := fun a : Nat => .slice (some ⟨a, 0, none⟩) n n) (E := fun a => [Ent.vec (some ⟨a, 0, none⟩) n n 3 1 (((List.range X.blocks.length).map (treeN X.blocks)).map (.int .i64))]) (φ := fun _ => True) rfl (fun w hw => by
    have := treeOf_c (.string X.name) (.int .i64 X.params) (.int .i64 X.regs) X.blocks _ ⟨ba, n, bc, rfl⟩ w (hbv0.keep keeps_block hw.chg) (by omega) hok (fun b B hB => (hFO.block b B hB).to) hpos
    rw [← hn] at this ⊢
    exact this) fun ua _ => ?_
  simp only [List.cons_append, List.nil_append]
  repeat (first | refine g_op rfl ?_ | refine g_then ?_ | refine g_nil ?_ | refine g_region ?_ | refine g_seq ?_ | refine g_make rfl (by omega) (by omega) fun _ _ => ?_)
  rename_i bo _
  refine g_callE (val := fun x : Option Addr × Nat => .slice x.1 (postL X.blocks).length x.2) (E := fun x => [Ent.vec x.1 (postL X.blocks).length x.2 3 1 ((postL X.blocks).map intN)]) (φ := fun _ => True) rfl (fun w hw => graphPost_c _ _ _ X.blocks _ w (hbv0.keep keeps_block hw.chg) (by omega) hok hpos) fun x _ => ?_
  obtain ⟨xa, xc⟩ := x
  simp only [List.cons_append, List.nil_append]
  repeat (first | refine g_op rfl ?_ | refine g_then ?_ | refine g_nil ?_ | refine g_block ?_)
  have hpn := (postL_seg hok hpos).1
  have hpl := postL_len hpos
  refine g_sel [1, 2, 0, 3, 5] (by decide) ?_
  refine g_nilVecs 3 1 n ?_
  rw [show (List.replicate n (Value.slice none 0 0)) = (List.replicate n (⟨none, 0, []⟩ : Row)).map valR by simp [valR], show (List.replicate n (Ent.vec none 0 0 3 1 [])) = (List.replicate n (⟨none, 0, []⟩ : Row)).map entR by simp [entR], ← map_intN]
  refine g_vec 2 rfl (List.length_pos_of_mem ((postL_mem hok hpos).2 .refl)) fun pb po hpa => ?_
  subst hpa
  refine g_loop (fun (x : Nat × List Row) => x.1 ≤ (postL X.blocks).length ∧ x.2.length = n ∧ ∀ j r, x.2[j]? = some r → r.l = tabAt X.blocks ((postL X.blocks).take x.1) j) (fun x => [(32, .int .i64 x.1), (31, .int .i64 (postL X.blocks).length), (30, .slice (some ⟨pb, po, none⟩) (postL X.blocks).length xc), (8, .slice (some ⟨ua, 0, none⟩) n n), (9, .slice (some ⟨bo, 0, none⟩) n n), (7, .pointer (some ⟨p7, 0, none⟩)), (5, .pointer (some ⟨p5, 0, none⟩))])
    (fun x => Ent.vec (some ⟨bo, 0, none⟩) n n 35 1 (x.2.map valR) :: Ent.vec (some ⟨ua, 0, none⟩) n n 3 1 (((List.range X.blocks.length).map (treeN X.blocks)).map (.int .i64)) :: Ent.vec (some ⟨pb, po, none⟩) (postL X.blocks).length xc 3 1 (((postL X.blocks).map fun x : Nat => (x : Int)).map (.int .i64)) :: Ent.box p7 [.int .i64 0, .int .i64 0] 29 :: Ent.box p5 [.int .i64 0, .int .i64 0] 29 :: x.2.map entR) (fun x => (postL X.blocks).length - x.1) (0, List.replicate n ⟨none, 0, []⟩)
    ⟨Nat.zero_le _, by simp, fun j r hr => ?_⟩ (g_done (by repeat (first | exact trivial | refine ⟨rfl, ?_⟩)) (by simp)) fun x ⟨hi, hrl, hrows⟩ => ?_
  · simp only [List.getElem?_replicate] at hr
    split at hr
    · simp only [Option.some.injEq] at hr
      subst hr
      simp [tabAt]
    · cases hr
  obtain ⟨i, rs⟩ := x
  simp only at hi hrl hrows ⊢
  repeat (first | refine g_op rfl ?_ | refine g_then ?_ | refine g_nil ?_ | refine g_region ?_ | refine g_seq ?_)
  refine g_cond (fun h1 => ?_) (fun h1 => ?_)
  · have hlt : i < (postL X.blocks).length := by simpa using h1
    obtain ⟨b, hb⟩ : ∃ b, (postL X.blocks)[i]? = some b := ⟨_, List.getElem?_eq_getElem hlt⟩
    have hbm := List.mem_of_getElem? hb
    have hbr := (postL_mem hok hpos).1 hbm
    have hbn : b < n := by have := hok.rch hpos hbr; omega
    have htk : (postL X.blocks).take (i + 1) = (postL X.blocks).take i ++ [b] := by rw [List.take_add_one, hb]; rfl
    have hbnot : b ∉ (postL X.blocks).take i := fun hm => by
      obtain ⟨j, hj⟩ := List.getElem?_of_mem hm
      have hji : j < i := by have := (List.getElem?_eq_some_iff.1 hj).1; rw [List.length_take] at this; omega
      rw [List.getElem?_take_of_lt hji] at hj
      have e1 := rk_get hpn hj
      have e2 := rk_get hpn hb
      omega
    have hli : LtIs i (postL X.blocks).length := ⟨hlt⟩
    have hel1 : ElAt ((postL X.blocks).map fun x : Nat => (x : Int)) i (b : Int) := ⟨by rw [List.getElem?_map, hb]; rfl⟩
    have hlb : LtIs b n := ⟨hbn⟩
    repeat (first | refine g_op rfl ?_ | refine g_then ?_ | refine g_nil ?_ | refine g_region ?_ | refine g_seq ?_ | refine g_block ?_ | refine g_skip ?_)
    obtain ⟨rb, hrb⟩ : ∃ r, rs[b]? = some r := ⟨_, List.getElem?_eq_getElem (by omega)⟩
    have hrb0 : rb.l = [] := by rw [hrows b rb hrb]; simp [tabAt, hbnot]
    refine g_loop (fun (x : Int × List Row) => ((x.1 < 0 ∧ x.1 = -1) ∨ ∃ c : Nat, x.1 = c ∧ Dom X.blocks c b) ∧ x.2.length = n ∧ (∀ j r, j ≠ b → x.2[j]? = some r → r.l = tabAt X.blocks ((postL X.blocks).take i) j) ∧ ∃ r, x.2[b]? = some r ∧ ChainUp X.blocks b x.1 r.l) (fun x => [(12, .int .i64 x.1), (11, .int .i64 b), (32, .int .i64 i), (31, .int .i64 (postL X.blocks).length), (30, .slice (some ⟨pb, po, none⟩) (postL X.blocks).length xc), (8, .slice (some ⟨ua, 0, none⟩) n n), (9, .slice (some ⟨bo, 0, none⟩) n n), (7, .pointer (some ⟨p7, 0, none⟩)), (5, .pointer (some ⟨p5, 0, none⟩))])
      (fun x => Ent.vec (some ⟨bo, 0, none⟩) n n 35 1 (x.2.map valR) :: Ent.vec (some ⟨ua, 0, none⟩) n n 3 1 (((List.range X.blocks.length).map (treeN X.blocks)).map (.int .i64)) :: Ent.vec (some ⟨pb, po, none⟩) (postL X.blocks).length xc 3 1 (((postL X.blocks).map fun x : Nat => (x : Int)).map (.int .i64)) :: Ent.box p7 [.int .i64 0, .int .i64 0] 29 :: Ent.box p5 [.int .i64 0, .int .i64 0] 29 :: x.2.map entR) (fun x => wayM X.blocks x.1) ((b : Int), rs)
      ⟨.inr ⟨b, rfl, .refl hbr⟩, hrl, fun j r _ hr => hrows j r hr, rb, hrb, by rw [hrb0]; exact chain_start⟩ (g_done (by repeat (first | exact trivial | refine ⟨rfl, ?_⟩)) (List.Sublist.refl _)) fun x ⟨hz, hrl1, hrows1, r, hr, hch1⟩ => ?_
    obtain ⟨z, rs1⟩ := x
    simp only at hz hrl1 hrows1 hr hch1 ⊢
    have hcl := hch1.len
    repeat (first | refine g_op rfl ?_ | refine g_then ?_ | refine g_nil ?_ | refine g_region ?_ | refine g_seq ?_)
    rcases hz with ⟨hz0, rfl⟩ | ⟨a, rfl, had⟩
    · rw [show decide ((0 : Int) ≤ -1) = false from rfl]
      repeat (first | refine g_op rfl ?_ | refine g_then ?_ | refine g_region ?_ | refine g_condF ?_ | refine g_exit ?_ | refine g_thenExit ?_ | refine g_exitHere ?_)
      have hxa : XAt (rs1.map valR) (b * 1) (.slice r.a r.l.length r.c) := ⟨by simp [hr, valR]⟩
      repeat (refine g_op rfl ?_)
      refine g_callAt (b + 5) (e := Ent.vec r.a r.l.length r.c 3 1 (r.l.map (.int .i64))) (val := fun _ : Unit => .tuple #[]) (E := fun _ => Ent.vec r.a r.l.length r.c 3 1 ((sorted r.l).map (.int .i64))) (φ := fun _ => True) (by simp [hr, entR]) rfl (fun w hw => sort_c r.a r.c r.l (by omega) w hw.pre) fun _ _ => ?_
      refine g_eqH (H1 := Ent.vec (some ⟨bo, 0, none⟩) n n 35 1 ((rs1.set b (⟨r.a, r.c, sorted r.l⟩ : Row)).map valR) :: Ent.vec (some ⟨ua, 0, none⟩) n n 3 1 (((List.range X.blocks.length).map (treeN X.blocks)).map (.int .i64)) :: Ent.vec (some ⟨pb, po, none⟩) (postL X.blocks).length xc 3 1 (((postL X.blocks).map fun x : Nat => (x : Int)).map (.int .i64)) :: Ent.box p7 [.int .i64 0, .int .i64 0] 29 :: Ent.box p5 [.int .i64 0, .int .i64 0] 29 :: (rs1.set b (⟨r.a, r.c, sorted r.l⟩ : Row)).map entR) ?_ ?_
      · rw [List.map_set, List.map_set, set_self (l := rs1.map valR) (by rw [List.getElem?_map, hr]; simp [valR, sorted_len])]
        simp [entR, sorted_len]
      repeat (first | refine g_then ?_ | refine g_nil ?_ | refine g_region ?_ | refine g_opS rfl ?_ | refine g_inBlock ?_ | refine g_add rfl (by omega) (by omega) ?_)
      refine g_next (i + 1, rs1.set b (⟨r.a, r.c, sorted r.l⟩ : Row)) ⟨hlt, by simpa using hrl1, fun j q hq => ?_⟩ (by simp only; omega) (by repeat (first | exact trivial | refine ⟨rfl, ?_⟩)) (List.Sublist.refl _)
      simp only
      rw [htk]
      by_cases hjb : j = b
      · subst hjb
        rw [List.getElem?_set_self (by omega)] at hq
        simp only [Option.some.injEq] at hq
        subst hq
        simp only
        rw [chain_end hok hpos hch1]
        simp [tabAt]
      · rw [List.getElem?_set_ne (Ne.symm hjb)] at hq
        rw [hrows1 j q hjb hq]
        simp [tabAt, hjb]
    · have han : a < n := by have := hok.rch hpos had.1; omega
      rw [show decide ((0 : Int) ≤ (a : Int)) = true by simp]
      have hla : LtIs a n := ⟨han⟩
      have hta := treeN_dom hok hpos (b := a) had
      have hms := wayM_lt hok hpos had.1
      have hela : ElAt ((List.range X.blocks.length).map (treeN X.blocks)) a (treeN X.blocks a) := ⟨by rw [List.getElem?_map, List.getElem?_range (by omega)]; rfl⟩
      have hxa : XAt (rs1.map valR) (b * 1) (.slice r.a r.l.length r.c) := ⟨by simp [hr, valR]⟩
      have hbl2 : b < rs1.length := by omega
      repeat (first | refine g_op rfl ?_ | refine g_then ?_ | refine g_region ?_ | refine g_seq ?_ | refine g_block ?_ | refine g_skip ?_ | refine g_condT ?_ | refine g_build1 rfl rfl fun _ _ => ?_)
      rename_i bt _
      refine g_appendAt (b + 6) (xs := r.l.map (.int .i64)) (e := 3) (by simp [hr, entR]) rfl rfl (by omega) (by omega) fun a' c' => ?_
      refine g_eqH (H1 := Ent.vec (some ⟨bt, 0, none⟩) 1 1 3 1 [.int .i64 a] :: Ent.vec (some ⟨bo, 0, none⟩) n n 35 1 (rs1.map valR) :: Ent.vec (some ⟨ua, 0, none⟩) n n 3 1 (((List.range X.blocks.length).map (treeN X.blocks)).map (.int .i64)) :: Ent.vec (some ⟨pb, po, none⟩) (postL X.blocks).length xc 3 1 (((postL X.blocks).map fun x : Nat => (x : Int)).map (.int .i64)) :: Ent.box p7 [.int .i64 0, .int .i64 0] 29 :: Ent.box p5 [.int .i64 0, .int .i64 0] 29 :: (rs1.set b (⟨a', c', r.l ++ [(a : Int)]⟩ : Row)).map entR) (by simp [entR, List.map_set]) ?_
      have hxs : XSet (rs1.map valR) (b * 1) (.slice a' (r.l.length + 1) c') ((rs1.set b (⟨a', c', r.l ++ [(a : Int)]⟩ : Row)).map valR) := ⟨by simp [valR, List.map_set], by simpa using hbl2⟩
      repeat (first | refine g_op rfl ?_ | refine g_then ?_ | refine g_nil ?_ | refine g_region ?_ | refine g_opS rfl ?_ | refine g_inBlock ?_ | refine g_storeV ?_)
      exact g_next (treeN X.blocks a, rs1.set b (⟨a', c', r.l ++ [(a : Int)]⟩ : Row)) ⟨hta, by simpa using hrl1, fun j q hj hq => hrows1 j q hj (by rw [List.getElem?_set_ne (Ne.symm hj)] at hq; exact hq), _, List.getElem?_set_self hbl2, chain_step hok hpos had hch1⟩ hms (by repeat (first | exact trivial | refine ⟨rfl, ?_⟩)) (List.Sublist.cons _ (List.Sublist.refl _))
  · have hge : i = (postL X.blocks).length := by have := h1; simp at this; omega
    rw [hge, List.take_length] at hrows
    have hall : rs.map (·.l) = domL X.blocks := by
      apply List.ext_getElem?
      intro j
      by_cases hj : j < n
      · obtain ⟨r, hr⟩ : ∃ r, rs[j]? = some r := ⟨_, List.getElem?_eq_getElem (by omega)⟩
        rw [List.getElem?_map, hr, domL_get (by omega), Option.map_some, hrows j r hr]
        unfold tabAt
        by_cases hm : j ∈ postL X.blocks
        · rw [if_pos hm]
        · rw [if_neg hm]
          have : domTo X.blocks j X.blocks.length = [] := List.eq_nil_iff_forall_not_mem.2 fun c hc => hm ((postL_mem hok hpos).2 (domTo_mem.1 hc).2.2.1)
          rw [this]; rfl
      · rw [List.getElem?_eq_none (by rw [List.length_map]; omega), List.getElem?_eq_none (by unfold domL gridL; rw [List.length_map, List.length_range]; omega)]
    have hdl : (domL X.blocks).length = n := by unfold domL gridL; rw [List.length_map, List.length_range, hn]
    repeat (first | refine g_then ?_ | refine g_seq ?_ | refine g_exit ?_ | refine g_thenExit ?_ | refine g_exitHere ?_)
    refine g_drawW [(4, .slice (some ⟨bo, 0, none⟩) n n), (5, .pointer (some ⟨p5, 0, none⟩))] (Ent.vec (some ⟨bo, 0, none⟩) n n 35 1 (rs.map valR) :: Ent.box p5 [.int .i64 0, .int .i64 0] 29 :: rs.map entR) mixed ?_ ?_
    · repeat' (first | refine g_any0 (by decide +kernel) ?_ | refine g_any (by decide +kernel) ?_ | refine any_nil | refine any_skip (by decide +kernel) ?_ | refine any_cons ?_ ?_ | refine g_op rfl ?_ | refine g_then ?_ | refine g_nil ?_ | refine g_storeAgg ?_)
      all_goals exact g_done (by repeat (first | exact trivial | refine ⟨rfl, ?_⟩)) (List.Sublist.cons_cons _ (List.Sublist.cons _ (List.Sublist.cons _ (List.Sublist.cons _ (List.Sublist.refl _)))))
    · repeat (first | refine g_then ?_ | refine g_ret ?_)
      refine g_retTC rfl fun w hw => ⟨(some ⟨bo, 0, none⟩, n, fps (Ent.vec (some ⟨bo, 0, none⟩) n n 35 1 (rs.map valR) :: rs.map entR)), by rw [hdl], ?_, trivial⟩
      rw [hdl]
      have := (hw.sub (List.Sublist.cons_cons _ (List.sublist_cons_self _ _))).grid (R := fun b a => Dom X.blocks a b) hrl (by omega) (by rw [hall, hn]; rfl)
      rw [hn] at this ⊢
      exact this
theorem domL_len (bl : List LBlock) : (domL bl).length = bl.length := by unfold domL gridL; rw [List.length_map, List.length_range]
theorem refTableK (nm pa re : Value) (bl : List LBlock) (bs : Value) (hbsl : ∃ a n c, bs = .slice a n c) (w0 : World) (hbs : SlAt w0 bs 6 bl BlockV) (hlen : bl.length ≤ 100) (hok : GoodB bl) (hpos : 0 < bl.length) :
    RetK Tryd.prog 35 [.agg #[nm, pa, re, bs]] w0 1 (domL bl) RowV fun v => v :=
  (refTable_c nm pa re bl bs hbsl w0 hbs hlen hok hpos).mono fun u w' ⟨x, h1, h2, _⟩ => ⟨(some ⟨x.1, 0, none⟩, bl.length, x.2), by rw [h1, domL_len], by simp only [domL_len]; exact h2, trivial⟩
theorem tableLaw_c (u : LUnit) (k : Int) (hk : inI k) (g fs : Value) (w0 : World) (hg : SlAt w0 g 3 u.globals GlobalV) (hf : SlAt w0 fs 4 u.funcs FuncV) (hways : CellsAt w0 0 0 waysC) :
    RetV Tryd.prog 6 [.agg #[g, fs], .int .i64 k] w0 (.bool true) := by
  classical
  have hg0 := hg
  have hf0 := hf
  obtain ⟨ga, gn, gc, gb, go, rfl, _⟩ := hg
  obtain ⟨fa, fn, fc, fb, fo, rfl, hfn, hfnc, hfnb, hfc, hfa, hfel⟩ := hf
  refine ret_enter Tryd.func6 rfl Tryd.ntmps6 rfl (Wd.nil NoS w0) ?_
  repeat (first | refine g_op rfl ?_ | refine g_then ?_ | refine g_nil ?_ | refine g_region ?_ | refine g_seq ?_ | refine g_box rfl fun _ _ => ?_)
  rename_i p2 _
  refine g_callE (val := fun b : Bool => .bool b) (E := fun _ => []) (φ := fun b => b = false → light u) rfl (fun w hw => heavy_c u _ _ w (hf0.keep keeps_func hw.chg) ⟨_, _, _, rfl⟩) fun b hb => ?_
  simp only [List.nil_append]
  cases b
  case true =>
    repeat (first | refine g_then ?_ | refine g_nil ?_ | refine g_region ?_ | refine g_seq ?_ | refine g_opS rfl ?_ | refine g_condT ?_ | refine g_ret ?_ | refine g_thenRet ?_)
    exact g_retV rfl rfl
  have hl := hb rfl
  repeat (first | refine g_op rfl ?_ | refine g_then ?_ | refine g_nil ?_ | refine g_region ?_ | refine g_seq ?_ | refine g_skip ?_ | refine g_condF ?_)
  by_cases hbad : (askedL u k).1 ≠ 0
  · refine g_callV rfl (fun w hw => table_bad u hl k hk hbad _ _ w (hg0.keep keeps_global hw.chg) (hf0.keep keeps_func hw.chg) (hways.keep hw.chg)) ?_
    repeat (first | refine g_op rfl ?_ | refine g_then ?_ | refine g_nil ?_ | refine g_region ?_ | refine g_seq ?_ | refine g_alloc rfl fun _ _ => ?_ | refine g_storeAgg ?_)
    refine g_callV rfl (fun w hw => asked_c u hl k _ _ w (hg0.keep keeps_global hw.chg) (hf0.keep keeps_func hw.chg) (hways.keep hw.chg)) ?_
    repeat (first | refine g_op rfl ?_ | refine g_then ?_ | refine g_nil ?_ | refine g_region ?_ | refine g_seq ?_ | refine g_alloc rfl fun _ _ => ?_ | refine g_storeAgg ?_)
    refine g_cond (fun h1 => ?_) (fun h1 => ?_)
    · repeat (first | refine g_op rfl ?_ | refine g_region ?_ | refine g_seq ?_)
      rw [show (decide ((askedL u k).1 = (askedL u k).1) && decide ((askedL u k).2 = (askedL u k).2)) = true by simp]
      repeat (first | refine g_op rfl ?_ | refine g_then ?_ | refine g_nil ?_ | refine g_opS rfl ?_ | refine g_open ?_ | refine g_ret ?_ | refine g_thenRet ?_)
      exact g_retV rfl rfl
    · exact absurd h1 (by simp [hbad])
  have hgood : (askedL u k).1 = 0 := by simpa using hbad
  obtain ⟨hch, has, i, X, rfl, hX, hok⟩ := asked_ok hgood
  have hpos := check_pos hch hX
  have hil : i < fn := by rw [hfn]; exact (List.getElem?_eq_some_iff.1 hX).1
  have had : AddrIs fa fb fo := ⟨hfa (ne_of_get hX)⟩
  have hli : LtIs i fn := ⟨hil⟩
  obtain ⟨cs, hcs, bv, rfl, hpi, hri, hbv⟩ := hfel i X hX
  have hci : CellsIs w0 fb (fo + i * 4) _ := ⟨hcs⟩
  have hbv0 := hbv
  obtain ⟨ba, bn, bc, _, _, rfl, hbn, _⟩ := hbv
  have h24 := (hl.2 X (List.mem_of_getElem? hX)).1
  refine g_callK (s := 1) (l := domL X.blocks) (V := RowV) (mk := fun v => .tuple #[v, .agg #[.int .i64 0, .int .i64 0]]) rfl (fun w hw => table_ok u hl i hgood X hX hok hpos hch _ _ w (hg0.keep keeps_global hw.chg) (hf0.keep keeps_func hw.chg) (hways.keep hw.chg)) fun ra rc rp => ?_
  repeat (first | refine g_op rfl ?_ | refine g_then ?_ | refine g_nil ?_ | refine g_region ?_ | refine g_seq ?_ | refine g_alloc rfl fun _ _ => ?_ | refine g_storeAgg ?_)
  rename_i p6 _
  refine g_callV rfl (fun w hw => asked_c u hl i _ _ w (hg0.keep keeps_global hw.chg) (hf0.keep keeps_func hw.chg) (hways.keep hw.chg)) ?_
  rw [has]
  repeat (first | refine g_op rfl ?_ | refine g_then ?_ | refine g_nil ?_ | refine g_region ?_ | refine g_seq ?_ | refine g_open ?_ | refine g_alloc rfl fun _ _ => ?_ | refine g_storeAgg ?_ | refine g_skip ?_ | refine g_condF ?_)
  rename_i p7 _
  refine g_callK (s := 1) (l := domL X.blocks) (V := RowV) (mk := fun v => v) rfl (fun w hw => refTableK _ _ _ X.blocks _ ⟨_, _, _, rfl⟩ w (hbv0.keep keeps_block hw.chg) (by omega) hok hpos) fun sa sc sp => ?_
  refine g_open ?_
  refine g_callV rfl (fun w hw => rows_c _ _ (domL X.blocks) (domL X.blocks) w ?_ ?_) ?_
  · exact hw.get (k := 3) rfl
  · exact hw.get (k := 0) rfl
  rw [show decide (domL X.blocks = domL X.blocks) = true by simp]
  try simp only [decide_true, Bool.and_self]
  repeat (first | refine g_op rfl ?_ | refine g_then ?_ | refine g_nil ?_ | refine g_opS rfl ?_ | refine g_ret ?_)
  exact g_retV rfl rfl
end Go.Proofs.YtoahickmkkcneaaDoor

/- dom.Rules, loops.Tame, turneryref3.Rules: what they return; the law LoopsTames, walked. -/
namespace Go.Proofs.YtoahickmkkcneaaDoor
open Go Go.RowKit
attribute [local irreducible] wpListIn Code.wpIn Exit.then Exit.inBlock bodyPost wpQuiet wpAnyIn wpAnyH bodyPostM
set_option maxHeartbeats 4000000

theorem rules_c (v : Value) (bl : List LBlock) (hok : GoodB bl) (hpos : 0 < bl.length) (a b : Nat) (hb : Rch bl (-1) 0 b) (w0 : World) (hv : SlAt w0 v 1 ((List.range bl.length).map (treeN bl)) IntV) : RetV Tryd.prog 87 [v, .int .i64 a, .int .i64 b] w0 (.bool (open Classical in decide (Dom bl a b))) := by
  classical
  obtain ⟨va, vn, vc, vb, vo, rfl, hn, hnc, hnb, hc, hva, hel⟩ := hv
  rw [List.length_map, List.length_range] at hn
  refine ret_enter Tryd.func87 rfl Tryd.ntmps87 rfl (Wd.nil NoS w0) ?_
  repeat (first | refine g_op rfl ?_ | refine g_then ?_ | refine g_nil ?_ | refine g_region ?_ | refine g_seq ?_ | refine g_block ?_)
  refine g_loop (fun (z : Int) => ((z < 0 ∧ z = -1) ∨ ∃ c : Nat, z = c ∧ Dom bl c b) ∧ (Dom bl a b ↔ DomI bl a z)) (fun z => [(2, .int .i64 z), (0, .slice va vn vc), (1, .int .i64 a)]) (fun _ => []) (fun z => wayM bl z) (b : Int) ⟨.inr ⟨b, rfl, .refl hb⟩, ⟨fun h => ⟨b, rfl, h⟩, fun ⟨c, e, h⟩ => (show b = c by omega) ▸ h⟩⟩ (g_done (by repeat (first | exact trivial | refine ⟨rfl, ?_⟩)) (by simp)) fun z ⟨hz, hd⟩ => ?_
  repeat (first | refine g_op rfl ?_ | refine g_region ?_ | refine g_seq ?_)
  rcases hz with ⟨hz0, rfl⟩ | ⟨c, rfl, hcd⟩
  · rw [show decide ((0 : Int) ≤ -1) = false from rfl]
    repeat (first | refine g_op rfl ?_ | refine g_then ?_ | refine g_nil ?_ | refine g_region ?_ | refine g_seq ?_ | refine g_pass rfl ?_ | refine g_condF ?_ | refine g_exit ?_ | refine g_thenExit ?_ | refine g_exitHere ?_ | refine g_ret ?_)
    refine g_retV rfl ?_
    rw [decide_eq_false fun h => ?_, decide_eq_false fun h => ?_]
    · obtain ⟨d, hd1, _⟩ := hd.1 h
      omega
    · omega
  · rw [show decide ((0 : Int) ≤ (c : Int)) = true by simp]
    have hcn : c < vn := by have := hok.rch hpos hcd.1; omega
    repeat (first | refine g_op rfl ?_ | refine g_then ?_ | refine g_nil ?_ | refine g_open ?_)
    refine g_cond (fun h1 => ?_) (fun h1 => ?_)
    · have hne : c ≠ a := by have := h1; simp at this; omega
      have hlc : LtIs c vn := ⟨hcn⟩
      obtain ⟨_, hcs, rfl, _⟩ := hel c (treeN bl c) (by rw [List.getElem?_map, List.getElem?_range (by omega)]; rfl)
      have had : AddrIs va vb vo := ⟨hva (fun e => by have := congrArg List.length e; rw [List.length_map, List.length_range, List.length_nil] at this; omega)⟩
      have hci : CellsIs w0 vb (vo + c * 1) _ := ⟨hcs⟩
      repeat (first | refine g_op rfl ?_ | refine g_then ?_ | refine g_nil ?_ | refine g_region ?_ | refine g_opS rfl ?_ | refine g_inBlock ?_ | refine g_block ?_ | refine g_skip ?_)
      refine g_next (treeN bl c) ⟨treeN_dom hok hpos hcd, hd.trans ?_⟩ (wayM_lt hok hpos hcd.1) (by repeat (first | exact trivial | refine ⟨rfl, ?_⟩)) (by simp)
      have h3 := domI_tree hok hpos (a := c) (i := a) hcd.1
      exact ⟨fun ⟨d, e, h⟩ => (h3.1 ((show c = d by omega) ▸ h)).resolve_right (Ne.symm hne), fun h => ⟨c, rfl, h3.2 (.inl h)⟩⟩
    · have he : c = a := by have := h1; simp at this; omega
      subst he
      repeat (first | refine g_op rfl ?_ | refine g_then ?_ | refine g_nil ?_ | refine g_region ?_ | refine g_seq ?_ | refine g_exit ?_ | refine g_thenExit ?_ | refine g_exitHere ?_ | refine g_ret ?_)
      refine g_retV rfl ?_
      rw [decide_eq_true rfl, decide_eq_true (hd.2 ⟨c, rfl, .refl hcd.1⟩)]
theorem treeOfK (nm pa re : Value) (bl : List LBlock) (bs : Value) (hbsl : ∃ a n c, bs = .slice a n c) (w0 : World) (hbs : SlAt w0 bs 6 bl BlockV) (hlen : bl.length ≤ 100) (hok : GoodB bl) (hto : ∀ (b : Nat) (B : LBlock), bl[b]? = some B → B.to.Nodup) (hpos : 0 < bl.length) :
    RetK Tryd.prog 74 [.agg #[nm, pa, re, bs]] w0 1 ((List.range bl.length).map (treeN bl)) IntV fun v => v :=
  retK_of (treeOf_c nm pa re bl bs hbsl w0 hbs hlen hok hto hpos) fun x _ => ⟨some ⟨x, 0, none⟩, bl.length, by rw [List.length_map, List.length_range], fun w2 hw => by rw [List.length_map, List.length_range]; exact treeL_sl hw (k := 0) rfl rfl hok hpos hlen⟩
def tameL (bl : List LBlock) : Prop := ∀ p ∈ backL bl, Dom bl p.2 p.1
theorem indexFP_c {f : Nat} [EnterOk Tryd.prog f] (cap : List Value) (g : Nat × Nat → Bool) (v : Value) (l : List (Nat × Nat)) (w0 : World) (hv : SlAt w0 v 2 l PairV) (hcl : ∀ w, Chg NoS w0 w → ∀ x ∈ l, RetV Tryd.prog f (.agg #[.int .i64 (x.1 : Int), .int .i64 (x.2 : Int)] :: cap) w (.bool (g x))) :
    Ret Tryd.prog 118 [v, .func (.func f) #[] cap.toArray] w0 fun u w' => ∃ r : Int, u = .int .i64 r ∧ Wd NoS w0 [] w' ∧ decide (0 ≤ r) = l.any g := by
  obtain ⟨a, n, c, b, o, rfl, hn, hnc, hnb, hc, ha, hel⟩ := hv
  refine ret_enter Tryd.func118 rfl Tryd.ntmps118 rfl (Wd.nil NoS w0) ?_
  repeat (first | refine g_op rfl ?_ | refine g_then ?_ | refine g_nil ?_ | refine g_region ?_ | refine g_seq ?_ | refine g_block ?_)
  refine g_loop (fun (i : Nat) => i ≤ n ∧ ∀ j t, j < i → l[j]? = some t → g t = false) (fun i => [(8, .int .i64 i), (0, .slice a n c), (1, .func (.func f) #[] cap.toArray), (7, .int .i64 n)]) (fun _ => []) (fun i => n - i) 0 ⟨Nat.zero_le _, by simp⟩ (g_done (by repeat (first | exact trivial | refine ⟨rfl, ?_⟩)) (by simp)) fun i ⟨hi, hall⟩ => ?_
  repeat (first | refine g_op rfl ?_ | refine g_then ?_ | refine g_nil ?_ | refine g_region ?_ | refine g_seq ?_)
  refine g_cond (fun h1 => ?_) (fun h1 => ?_)
  · have hlt : i < n := by simpa using h1
    obtain ⟨x, hx⟩ := get_lt hn hlt
    have had : AddrIs a b o := ⟨ha (ne_of_get hx)⟩
    have hli : LtIs i n := ⟨hlt⟩
    obtain ⟨cs, hcs, rfl⟩ := hel i x hx
    have hci : CellsIs w0 b (o + i * 2) [.int .i64 (x.1 : Int), .int .i64 (x.2 : Int)] := ⟨hcs⟩
    repeat (first | refine g_op rfl ?_ | refine g_then ?_ | refine g_nil ?_ | refine g_region ?_ | refine g_seq ?_ | refine g_block ?_ | refine g_skip ?_)
    refine g_callFV rfl (us := []) (vs := [.agg #[.int .i64 (x.1 : Int), .int .i64 (x.2 : Int)]]) (xs := cap) (fun w hw => hcl w hw.chg x (List.mem_of_getElem? hx)) ?_
    repeat (first | refine g_then ?_ | refine g_nil ?_)
    refine g_cond (fun h2 => ?_) (fun h2 => ?_)
    · repeat (first | refine g_op rfl ?_ | refine g_then ?_ | refine g_nil ?_ | refine g_region ?_ | refine g_seq ?_ | refine g_ret ?_ | refine g_thenRet ?_ | refine g_blockRet ?_)
      refine g_ret1 rfl fun w hw => ⟨_, rfl, ⟨hw.chg, by simp, by simp, by simp⟩, ?_⟩
      rw [decide_eq_true (by omega : (0 : Int) ≤ (i : Int))]
      symm
      simp only [List.any_eq_true]
      exact ⟨x, List.mem_of_getElem? hx, h2⟩
    · repeat (first | refine g_then ?_ | refine g_nil ?_ | refine g_region ?_ | refine g_opS rfl ?_ | refine g_inBlock ?_ | refine g_skip ?_ | refine g_add rfl (by omega) (by omega) ?_)
      refine g_next (i + 1) ⟨hlt, fun j t hj ht => ?_⟩ (by omega) (by repeat (first | exact trivial | refine ⟨rfl, ?_⟩)) (by simp)
      by_cases hji : j = i
      · subst hji
        rw [hx] at ht
        simp only [Option.some.injEq] at ht
        subst ht; exact h2
      · exact hall j t (by omega) ht
  · have hge : i = n := by have := h1; simp at this; omega
    repeat (first | refine g_op rfl ?_ | refine g_then ?_ | refine g_nil ?_ | refine g_region ?_ | refine g_seq ?_ | refine g_exit ?_ | refine g_thenExit ?_ | refine g_exitHere ?_ | refine g_ret ?_)
    refine g_ret1 rfl fun w hw => ⟨_, rfl, ⟨hw.chg, by simp, by simp, by simp⟩, ?_⟩
    symm
    rw [show decide ((0 : Int) ≤ -1) = false from rfl]
    simp only [List.any_eq_false]
    intro t ht
    obtain ⟨j, hj⟩ := List.getElem?_of_mem ht
    have := hall j t (by have := (List.getElem?_eq_some_iff.1 hj).1; omega) hj
    simp [this]
theorem containsFP_c {f : Nat} [EnterOk Tryd.prog f] (cap : List Value) (g : Nat × Nat → Bool) (v : Value) (l : List (Nat × Nat)) (w0 : World) (hv : SlAt w0 v 2 l PairV) (hcl : ∀ w, Chg NoS w0 w → ∀ x ∈ l, RetV Tryd.prog f (.agg #[.int .i64 (x.1 : Int), .int .i64 (x.2 : Int)] :: cap) w (.bool (g x))) :
    RetV Tryd.prog 85 [v, .func (.func f) #[] cap.toArray] w0 (.bool (l.any g)) := by
  refine ret_enter Tryd.func85 rfl Tryd.ntmps85 rfl (Wd.nil NoS w0) ?_
  repeat (first | refine g_op rfl ?_ | refine g_then ?_ | refine g_nil ?_ | refine g_region ?_ | refine g_seq ?_)
  refine g_callE (val := fun r : Int => .int .i64 r) (φ := fun r : Int => decide (0 ≤ r) = l.any g) (E := fun _ => []) rfl (fun w hw => indexFP_c cap g v l w (hv.keep keeps_pair hw.chg) fun w1 h1 x => hcl w1 (hw.chg.trans h1) x) fun r hr => ?_
  repeat (first | refine g_op rfl ?_ | refine g_then ?_ | refine g_nil ?_ | refine g_opS rfl ?_ | refine g_ret ?_)
  exact g_retV rfl (by rw [hr])
theorem tameOne_c (b8 : Nat) (up : Value) (bl : List LBlock) (hok : GoodB bl) (hpos : 0 < bl.length) (x : Nat × Nat) (hx : Rch bl (-1) 0 x.1) (w0 : World) (hb : CellsAt w0 b8 0 [up]) (hv : SlAt w0 up 1 ((List.range bl.length).map (treeN bl)) IntV) :
    RetV Tryd.prog 86 [.agg #[.int .i64 (x.1 : Int), .int .i64 (x.2 : Int)], .pointer (some ⟨b8, 0, none⟩)] w0 (.bool (!(open Classical in decide (Dom bl x.2 x.1)))) := by
  classical
  have hv0 := hv
  obtain ⟨va, vn, vc, _, _, rfl, _⟩ := hv
  have hci : CellsIs w0 b8 0 _ := ⟨hb⟩
  have hl0 : LtIs 0 2 := ⟨by omega⟩
  have hl1 : LtIs 1 2 := ⟨by omega⟩
  refine ret_enter Tryd.func86 rfl Tryd.ntmps86 rfl (Wd.nil NoS w0) ?_
  repeat (first | refine g_op rfl ?_ | refine g_then ?_ | refine g_nil ?_ | refine g_region ?_ | refine g_seq ?_ | refine g_box rfl fun _ _ => ?_)
  rw [show 0 + 0 * 1 = 0 from rfl]
  repeat (refine g_op rfl ?_)
  refine g_callV rfl (fun w hw => rules_c _ bl hok hpos x.2 x.1 hx w (hv0.keep keeps_int hw.chg)) ?_
  repeat (first | refine g_op rfl ?_ | refine g_then ?_ | refine g_nil ?_ | refine g_opS rfl ?_ | refine g_ret ?_)
  exact g_retV rfl rfl
theorem tame_bad (u : LUnit) (hl : light u) (k : Int) (hk : inI k) (hbad : (askedL u k).1 ≠ 0) (g fs : Value) (w0 : World) (hg : SlAt w0 g 3 u.globals GlobalV) (hf : SlAt w0 fs 4 u.funcs FuncV) (hways : CellsAt w0 0 0 waysC) :
    RetV Tryd.prog 45 [.agg #[g, fs], .int .i64 k] w0 (.tuple #[.bool false, .agg #[.int .i64 (askedL u k).1, .int .i64 (askedL u k).2]]) := by
  have hg0 := hg
  have hf0 := hf
  obtain ⟨ga, gn, gc, gb, go, rfl, _⟩ := hg
  obtain ⟨fa, fn, fc, fb, fo, rfl, _⟩ := hf
  refine ret_enter Tryd.func45 rfl Tryd.ntmps45 rfl (Wd.nil NoS w0) ?_
  repeat (first | refine g_op rfl ?_ | refine g_then ?_ | refine g_nil ?_ | refine g_region ?_ | refine g_seq ?_ | refine g_box rfl fun _ _ => ?_ | refine g_alloc rfl fun _ _ => ?_)
  rename_i p2 _ p5 _
  refine g_callV rfl (fun w hw => func_bad u hl k hk hbad _ _ w (hg0.keep keeps_global hw.chg) (hf0.keep keeps_func hw.chg) (hways.keep hw.chg)) ?_
  unfold zeroFn
  repeat (first | refine g_op rfl ?_ | refine g_then ?_ | refine g_nil ?_ | refine g_region ?_ | refine g_seq ?_ | refine g_alloc rfl fun _ _ => ?_ | refine g_storeAgg ?_)
  rename_i p6 _ p7 _
  refine g_cond (fun h1 => ?_) (fun h1 => ?_)
  · repeat (refine g_seq ?_)
    refine g_drawW [(4, .bool false), (5, .pointer (some ⟨p5, 0, none⟩))] [Ent.box p5 [.int .i64 (askedL u k).1, .int .i64 (askedL u k).2] 29] mixed ?_ ?_
    · repeat' (first | refine g_any0 (by decide +kernel) ?_ | refine g_any (by decide +kernel) ?_ | refine any_nil | refine any_skip (by decide +kernel) ?_ | refine any_cons ?_ ?_ | refine g_op rfl ?_ | refine g_then ?_ | refine g_nil ?_ | refine g_opS rfl ?_ | refine g_storeAgg ?_)
      all_goals exact g_done (by repeat (first | exact trivial | refine ⟨rfl, ?_⟩)) (by simp)
    · repeat (first | refine g_then ?_ | refine g_ret ?_ | refine g_thenRet ?_)
      exact g_retTC rfl fun _ hw => ⟨rfl, hw.chg⟩
  · exact absurd h1 (by simp [hbad])
theorem tame_ok (u : LUnit) (hl : light u) (k : Nat) (hgood : (askedL u k).1 = 0) (X : LFunc) (hX : u.funcs[k]? = some X) (hok : GoodB X.blocks) (hpos : 0 < X.blocks.length) (hch : (checkL u).1 = 0) (g fs : Value) (w0 : World) (hg : SlAt w0 g 3 u.globals GlobalV) (hf : SlAt w0 fs 4 u.funcs FuncV) (hways : CellsAt w0 0 0 waysC) :
    RetV Tryd.prog 45 [.agg #[g, fs], .int .i64 k] w0 (.tuple #[.bool (open Classical in decide (tameL X.blocks)), .agg #[.int .i64 0, .int .i64 0]]) := by
  classical
  have hg0 := hg
  have hf0 := hf
  obtain ⟨ga, gn, gc, gb, go, rfl, _⟩ := hg
  obtain ⟨fa, fn, fc, fb, fo, rfl, _⟩ := hf
  have hlx := hl.2 X (List.mem_of_getElem? hX)
  have h24 := hlx.1
  obtain ⟨bv, hbv, hfc⟩ := func_ok u hl k hgood _ _ X hX w0 hg0 hf0 hways
  have hbv0 := hbv
  obtain ⟨ba, n, bc, bb, bo', rfl, hn, hnc, hnb, hbc, hba, hel⟩ := hbv
  obtain ⟨R, hXR, hR, hFO⟩ := check_func hch hX
  refine ret_enter Tryd.func45 rfl Tryd.ntmps45 rfl (Wd.nil NoS w0) ?_
  repeat (first | refine g_op rfl ?_ | refine g_then ?_ | refine g_nil ?_ | refine g_region ?_ | refine g_seq ?_ | refine g_box rfl fun _ _ => ?_ | refine g_alloc rfl fun _ _ => ?_)
  rename_i p2 _ p5 _
  refine g_callV rfl (fun w hw => hfc w hw.chg) ?_
  repeat (first | refine g_op rfl ?_ | refine g_then ?_ | refine g_nil ?_ | refine g_region ?_ | refine g_seq ?_ | refine g_alloc rfl fun _ _ => ?_ | refine g_storeAgg ?_ | refine g_skip ?_ | refine g_condF ?_)
  rename_i p6 _ p7 _
  refine g_callK (s := 1) (l := (List.range X.blocks.length).map (treeN X.blocks)) (V := IntV) (mk := fun v => v) rfl (fun w hw => treeOfK _ _ _ X.blocks _ ⟨_, _, _, rfl⟩ w (hbv0.keep keeps_block hw.chg) (by omega) hok (fun b B hB => (hFO.block b B hB).to) hpos) fun ua uc up => ?_
  repeat (first | refine g_then ?_ | refine g_nil ?_ | refine g_seq ?_ | refine g_store ?_ | refine g_alloc rfl fun _ _ => ?_)
  rename_i p8 _
  refine g_sel [4, 0, 1, 2, 3] (by decide) ?_
  refine g_fix (L' := [(8, .pointer (some ⟨p8, 0, none⟩)), (7, .pointer (some ⟨p7, 0, none⟩)), (6, .pointer (some ⟨p6, 0, none⟩)), (5, .pointer (some ⟨p5, 0, none⟩))]) (by repeat (first | exact trivial | refine ⟨rfl, ?_⟩)) (List.Sublist.refl _) ?_
  refine g_drawH [Ent.box p8 [.slice ua ((List.range X.blocks.length).map (treeN X.blocks)).length uc] 35, (⟨up, fun w => SlAt w (.slice ua ((List.range X.blocks.length).map (treeN X.blocks)).length uc) 1 ((List.range X.blocks.length).map (treeN X.blocks)) IntV⟩ : Ent), Ent.box p7 [.int .i64 0, .int .i64 0] 29, Ent.box p6 [.string X.name, .int .i64 X.params, .int .i64 X.regs, .slice ba n bc] 34] mixed (List.sublist_cons_self _ _) ?_
  refine h_take 0 rfl (by decide +kernel) (List.sublist_cons_self _ _) ?_
  refine h_take 2 rfl (by decide +kernel) (List.sublist_cons_self _ _) ?_
  refine h_take 5 rfl (by decide +kernel) (List.sublist_cons_self _ _) ?_
  refine h_callE 1 (val := fun x : Option Addr × Nat × (Nat → Prop) => .slice x.1 (backL X.blocks).length x.2.1) (E := fun x => [⟨x.2.2, fun w => SlAt w (.slice x.1 (backL X.blocks).length x.2.1) 2 (backL X.blocks) PairV⟩]) (φ := fun _ => True) rfl (by decide +kernel) (List.sublist_cons_self _ _) (fun w hw => backOfK _ _ _ X.blocks _ ⟨_, _, _, rfl⟩ w (hbv0.keep keeps_block hw.chg) (by omega) hok (fun b B hB => (hFO.block b B hB).to) hpos) fun x _ => ?_
  obtain ⟨xa, xc, xp⟩ := x
  simp only [List.cons_append, List.nil_append]
  refine h_callV 3 rfl (by decide +kernel) (List.Sublist.cons _ (List.sublist_cons_self _ _)) (fun w hw => containsFP_c (f := 86) [.pointer (some ⟨p8, 0, none⟩)] (fun p => !decide (Dom X.blocks p.2 p.1)) _ (backL X.blocks) w (hw.get (k := 0) rfl) fun w1 h1 x hx => ?_) ?_
  · have h2 : SlAt w (.slice ua ((List.range X.blocks.length).map (treeN X.blocks)).length uc) 1 ((List.range X.blocks.length).map (treeN X.blocks)) IntV := hw.get (k := 3) rfl
    exact tameOne_c p8 _ X.blocks hok hpos x ((backL_mem hok hpos).1 (show (x.1, x.2) ∈ backL X.blocks from hx)).1 w1 ((hw.boxCells p8).keep h1) (h2.keep keeps_int h1)
  rw [show ((backL X.blocks).any fun p => !decide (Dom X.blocks p.2 p.1)) = !decide (tameL X.blocks) by
    by_cases h : tameL X.blocks
    · rw [decide_eq_true h]
      simp only [Bool.not_true, List.any_eq_false]
      intro p hp
      simp [h p hp]
    · rw [decide_eq_false h]
      simp only [Bool.not_false, List.any_eq_true]
      unfold tameL at h
      simp only [Classical.not_forall] at h
      obtain ⟨p, hp, hd⟩ := h
      exact ⟨p, hp, by simp [hd]⟩]
  refine h_take 4 rfl (by decide +kernel) (List.Sublist.cons _ (List.sublist_cons_self _ _)) ?_
  refine h_take 6 rfl (by decide +kernel) (List.Sublist.cons _ (List.sublist_cons_self _ _)) ?_
  refine h_storeAgg 7 (by decide +kernel) (List.Sublist.cons _ (List.sublist_cons_self _ _)) ?_
  refine h_end (by decide +kernel) ?_
  repeat (first | refine g_then ?_ | refine g_ret ?_)
  exact g_retTC rfl fun w hw => ⟨rfl, hw.chg⟩
end Go.Proofs.YtoahickmkkcneaaDoor

/- turneryref3.Rules: what it returns; the law LoopsTames, walked. -/
namespace Go.Proofs.YtoahickmkkcneaaDoor
open Go Go.RowKit
attribute [local irreducible] wpListIn Code.wpIn Exit.then Exit.inBlock bodyPost wpQuiet wpAnyIn wpAnyH bodyPostM
set_option maxHeartbeats 4000000

section
variable {P : Program} {N : Nat} {ds : List Deferred} {S : Nat → Prop} {w0 : World} {L L' : List (Nat × Value)} {H H' Hr : List Ent} {Q : Exit → Act → World → Prop} {x y : Operand} {M : Act → World → Prop} {l : List Oper} {fuel : Nat} {listed : Array Bool}
/-- a call under a guard that is met -/
theorem h_callVG {d ty f j t : Nat} (i : Nat) {want : Bool} {args : List Operand} {vs : List Value} {tys : Array Nat} {pos : String} {aft : Array Go.Edge} {u : Value} [ho : ListAt l i ⟨some d, .call { callee := .value (.func f), args := args.toArray, argTypes := tys }, ty, pos, aft, some (j, want)⟩] [hj : DstOf l.toArray j t] [hb : SlotIs L t (.bool want)] [h : EnterOk P f] [hx : Evs L args vs] (hd : okPut d N L = true)
    (hr : decide (Region.ready .any l.toArray listed = [i]) = true) (hH : Hr.Sublist H)
    (hc : ∀ w, Wd S w0 H w → RetV P f vs w u)
    (k : G N ds S w0 ((d, u) :: L) H (wpAnyH P .any l.toArray (OnlyN M) (Wd S w0 Hr) fuel (listed.setIfInBounds i true))) : G N ds S w0 L H (wpAnyH P .any l.toArray (OnlyN M) (Wd S w0 Hr) (fuel + 1) listed) := by
  intro a w hS
  refine wpAnyH_all (of_decide_eq_true hr) (by simp) fun i' hi' => ?_
  simp only [List.mem_singleton] at hi'
  subst hi'
  unfold wpOp
  rw [show l.toArray[i']? = some ⟨some d, .call { callee := .value (.func f), args := args.toArray, argTypes := tys }, ty, pos, aft, some (j, want)⟩ by simpa using ho.at']
  simp only
  rw [if_pos (show Region.wanted (⟨some d, .call { callee := .value (.func f), args := args.toArray, argTypes := tys }, ty, pos, aft, some (j, want)⟩ : Oper) (yielded l.toArray a.tmps) = true by
    simp only [Region.wanted, hS.fr.yield (ops := l.toArray) (j := j) (b := want)]
    simp)]
  left
  unfold Oper.wp
  have hrun : (execOp a.eval ⟨some d, .call { callee := .value (.func f), args := args.toArray, argTypes := tys }, ty, pos, aft, some (j, want)⟩).run P w = .ok (.enter f vs.toArray) w := by
    simp [execOp, resolve, Act.eval, Deferred.ofValue, invoke, hx.eq _ _ _ hS.fr, h.run]
  rw [hrun]
  refine Calls.mono (callsIn_wide.1 (hc w hS.wd)) fun e w' ⟨v, he, hR⟩ => ?_
  subst he
  have hw2 : Wd S w0 H w' := hS.wd.call hR.2
  exact ⟨hw2.sub hH, k _ w' ⟨by rw [hR.1]; exact hS.fr.putOk hd u, hw2⟩⟩
end
theorem fromR_sl {S : Nat → Prop} {w0 w : World} {H : List Ent} {k c : Nat} {a : Option Addr} {bl : List LBlock} {wo : Int} {b : Nat} {l : List Nat} (h : Wd S w0 H w) (hk : H[k]? = some (Ent.vec a l.length c 3 1 (l.map intN))) (hl : FromR bl wo b l) (hlen : bl.length ≤ 100) : SlAt w (.slice a l.length c) 1 (l.map fun x : Nat => (x : Int)) IntV :=
  ints_sl h hk rfl (by have := nodup_len _ l hl.1 hl.2.1; omega) fun x hx => by have := hl.2.1 x hx; omega
theorem refRules_c (nm pa re : Value) (bl : List LBlock) (bs : Value) (hbsl : ∃ a n c, bs = .slice a n c) (a b : Nat) (w0 : World) (hbs : SlAt w0 bs 6 bl BlockV) (hlen : bl.length ≤ 100) (hok : GoodB bl) (hpos : 0 < bl.length) :
    RetV Tryd.prog 46 [.agg #[nm, pa, re, bs], .int .i64 a, .int .i64 b] w0 (.bool (open Classical in decide (Dom bl a b))) := by
  classical
  obtain ⟨ba, n, bc, rfl⟩ := hbsl
  refine ret_enter Tryd.func46 rfl Tryd.ntmps46 rfl (Wd.nil NoS w0) ?_
  repeat (first | refine g_op rfl ?_ | refine g_then ?_ | refine g_nil ?_ | refine g_region ?_ | refine g_seq ?_ | refine g_box rfl fun _ _ => ?_)
  rename_i p3 _
  refine g_callE (val := fun x : Option Addr × Nat × List Nat => .slice x.1 x.2.2.length x.2.1) (E := fun x => [Ent.vec x.1 x.2.2.length x.2.1 3 1 (x.2.2.map intN)]) (φ := fun x => FromR bl (-1) 0 x.2.2) rfl (fun w hw => reached_c _ _ _ bl _ ⟨_, _, _, rfl⟩ w (hbs.keep keeps_block hw.chg) hlen hok hpos) fun x hx => ?_
  obtain ⟨xa, xc, l⟩ := x
  simp only [List.cons_append, List.nil_append] at hx ⊢
  repeat (first | refine g_op rfl ?_ | refine g_then ?_ | refine g_nil ?_ | refine g_region ?_ | refine g_seq ?_)
  have hrl : ∀ x : Nat, decide ((x : Int) ∈ l.map fun x : Nat => (x : Int)) = decide (Rch bl (-1) 0 x) := fun x => by
    rw [decide_eq_decide, mem_ints, hx.2.2]
    exact ⟨fun h => h.2, fun h => ⟨by omega, h⟩⟩
  refine g_callV rfl (fun w hw => has_c _ (l.map fun x : Nat => (x : Int)) a w (fromR_sl hw (k := 0) rfl hx hlen)) ?_
  rw [hrl]
  generalize hd1 : decide (Rch bl (-1) 0 a) = d1
  cases d1
  · have hno : ¬ Dom bl a b := fun h => by simp [h.1] at hd1
    repeat (first | refine g_op rfl ?_ | refine g_then ?_ | refine g_nil ?_ | refine g_opS rfl ?_ | refine g_pass rfl ?_ | refine g_ret ?_ | refine g_passU rfl ?_)
    exact g_retV rfl (by rw [decide_eq_false hno])
  have hra : Rch bl (-1) 0 a := by simpa using hd1
  repeat (first | refine g_op rfl ?_ | refine g_open ?_)
  refine g_callV rfl (fun w hw => has_c _ (l.map fun x : Nat => (x : Int)) b w (fromR_sl hw (k := 0) rfl hx hlen)) ?_
  rw [hrl]
  generalize hd2 : decide (Rch bl (-1) 0 b) = d2
  cases d2
  · have hno : ¬ Dom bl a b := fun h => by simp [h.2.1] at hd2
    repeat (first | refine g_op rfl ?_ | refine g_then ?_ | refine g_nil ?_ | refine g_opS rfl ?_ | refine g_pass rfl ?_ | refine g_ret ?_ | refine g_passU rfl ?_)
    exact g_retV rfl (by rw [decide_eq_false hno])
  have hrb : Rch bl (-1) 0 b := by simpa using hd2
  repeat (first | refine g_op rfl ?_ | refine g_open ?_)
  by_cases he : a = b
  · subst he
    rw [show decide ((a : Int) = (a : Int)) = true by simp]
    repeat (first | refine g_op rfl ?_ | refine g_then ?_ | refine g_nil ?_ | refine g_opS rfl ?_ | refine g_open ?_ | refine g_pass rfl ?_ | refine g_ret ?_)
    exact g_retV rfl (by rw [decide_eq_true (Dom.refl hra)])
  rw [show decide ((a : Int) = (b : Int)) = false by simp; omega]
  repeat (first | refine g_op rfl ?_ | refine g_open ?_)
  refine g_callE (val := fun x : Option Addr × Nat × List Nat => .slice x.1 x.2.2.length x.2.1) (E := fun x => [Ent.vec x.1 x.2.2.length x.2.1 3 1 (x.2.2.map intN)]) (φ := fun x => FromR bl a 0 x.2.2) rfl (fun w hw => refFrom_c _ _ _ bl _ 0 a w (hbs.keep keeps_block hw.chg) hlen hok hpos) fun x hx2 => ?_
  obtain ⟨ya, yc, m⟩ := x
  simp only [List.cons_append, List.nil_append] at hx2 ⊢
  repeat (first | refine g_op rfl ?_ | refine g_open ?_)
  refine g_callV rfl (fun w hw => has_c _ (m.map fun x : Nat => (x : Int)) b w (fromR_sl hw (k := 0) rfl hx2 hlen)) ?_
  rw [show decide ((b : Int) ∈ m.map fun x : Nat => (x : Int)) = !decide (Dom bl a b) by
    by_cases h : Dom bl a b
    · rw [decide_eq_true h]
      simp only [Bool.not_true, decide_eq_false_iff_not]
      intro hm
      rw [mem_ints, hx2.2.2] at hm
      rcases h.2.2 with k | k | k
      · exact he k
      · subst k; exact hm.1 rfl
      · exact k hm.2
    · rw [decide_eq_false h]
      simp only [Bool.not_false, decide_eq_true_eq]
      rw [mem_ints, hx2.2.2]
      by_cases h0 : a = 0
      · exact absurd ⟨hra, hrb, .inr (.inl h0)⟩ h
      · refine ⟨by omega, ?_⟩
        by_cases k : Rch bl a 0 b
        · exact k
        · exact absurd ⟨hra, hrb, .inr (.inr k)⟩ h]
  repeat (first | refine g_op rfl ?_ | refine g_then ?_ | refine g_nil ?_ | refine g_opS rfl ?_ | refine g_open ?_ | refine g_ret ?_)
  exact g_retV rfl (by simp)
def domAll (bl : List LBlock) (l : List (Nat × Nat)) : Prop := ∀ p ∈ l, Dom bl p.2 p.1
theorem ring_tame : tameL ringB := fun p hp => by
  rw [ring_back'] at hp
  rw [List.mem_singleton.1 hp]
  exact .refl (ring_rch.2 (by omega))
theorem tameLaw_c (u : LUnit) (k : Int) (hk : inI k) (g fs : Value) (w0 : World) (hg : SlAt w0 g 3 u.globals GlobalV) (hf : SlAt w0 fs 4 u.funcs FuncV) (hways : CellsAt w0 0 0 waysC) :
    RetV Tryd.prog 12 [.agg #[g, fs], .int .i64 k] w0 (.bool true) := by
  classical
  have hg0 := hg
  have hf0 := hf
  obtain ⟨ga, gn, gc, gb, go, rfl, _⟩ := hg
  obtain ⟨fa, fn, fc, fb, fo, rfl, hfn, hfnc, hfnb, hfc, hfa, hfel⟩ := hf
  refine ret_enter Tryd.func12 rfl Tryd.ntmps12 rfl (Wd.nil NoS w0) ?_
  repeat (first | refine g_op rfl ?_ | refine g_then ?_ | refine g_nil ?_ | refine g_region ?_ | refine g_seq ?_ | refine g_box rfl fun _ _ => ?_)
  rename_i p2 _
  refine g_callE (val := fun b : Bool => .bool b) (E := fun _ => []) (φ := fun b => b = false → light u) rfl (fun w hw => heavy_c u _ _ w (hf0.keep keeps_func hw.chg) ⟨_, _, _, rfl⟩) fun b hb => ?_
  simp only [List.nil_append]
  cases b
  case true =>
    repeat (first | refine g_then ?_ | refine g_nil ?_ | refine g_region ?_ | refine g_seq ?_ | refine g_opS rfl ?_ | refine g_condT ?_ | refine g_ret ?_ | refine g_thenRet ?_)
    exact g_retV rfl rfl
  have hl := hb rfl
  repeat (first | refine g_op rfl ?_ | refine g_then ?_ | refine g_nil ?_ | refine g_region ?_ | refine g_seq ?_ | refine g_skip ?_ | refine g_condF ?_)
  by_cases hbad : (askedL u k).1 ≠ 0
  · refine g_callV rfl (fun w hw => tame_bad u hl k hk hbad _ _ w (hg0.keep keeps_global hw.chg) (hf0.keep keeps_func hw.chg) (hways.keep hw.chg)) ?_
    repeat (first | refine g_op rfl ?_ | refine g_then ?_ | refine g_nil ?_ | refine g_region ?_ | refine g_seq ?_ | refine g_alloc rfl fun _ _ => ?_ | refine g_storeAgg ?_)
    refine g_callV rfl (fun w hw => asked_c u hl k _ _ w (hg0.keep keeps_global hw.chg) (hf0.keep keeps_func hw.chg) (hways.keep hw.chg)) ?_
    repeat (first | refine g_op rfl ?_ | refine g_then ?_ | refine g_nil ?_ | refine g_region ?_ | refine g_seq ?_ | refine g_alloc rfl fun _ _ => ?_ | refine g_storeAgg ?_)
    refine g_cond (fun h1 => ?_) (fun h1 => ?_)
    · repeat (first | refine g_op rfl ?_ | refine g_region ?_ | refine g_seq ?_)
      rw [show (decide ((askedL u k).1 = (askedL u k).1) && decide ((askedL u k).2 = (askedL u k).2)) = true by simp]
      repeat (first | refine g_op rfl ?_ | refine g_then ?_ | refine g_nil ?_ | refine g_opS rfl ?_ | refine g_open ?_ | refine g_ret ?_ | refine g_thenRet ?_)
      exact g_retV rfl rfl
    · exact absurd h1 (by simp [hbad])
  have hgood : (askedL u k).1 = 0 := by simpa using hbad
  obtain ⟨hch, has, i, X, rfl, hX, hok⟩ := asked_ok hgood
  have hpos := check_pos hch hX
  have hil : i < fn := by rw [hfn]; exact (List.getElem?_eq_some_iff.1 hX).1
  have had : AddrIs fa fb fo := ⟨hfa (ne_of_get hX)⟩
  have hli : LtIs i fn := ⟨hil⟩
  obtain ⟨cs, hcs, bv, rfl, hpi, hri, hbv⟩ := hfel i X hX
  have hci : CellsIs w0 fb (fo + i * 4) _ := ⟨hcs⟩
  have hbv0 := hbv
  obtain ⟨ba, bn, bc, _, _, rfl, hbn, _⟩ := hbv
  have h24 := (hl.2 X (List.mem_of_getElem? hX)).1
  refine g_callV rfl (fun w hw => tame_ok u hl i hgood X hX hok hpos hch _ _ w (hg0.keep keeps_global hw.chg) (hf0.keep keeps_func hw.chg) (hways.keep hw.chg)) ?_
  repeat (first | refine g_op rfl ?_ | refine g_then ?_ | refine g_nil ?_ | refine g_region ?_ | refine g_seq ?_ | refine g_alloc rfl fun _ _ => ?_ | refine g_storeAgg ?_)
  rename_i p6 _
  refine g_callV rfl (fun w hw => asked_c u hl i _ _ w (hg0.keep keeps_global hw.chg) (hf0.keep keeps_func hw.chg) (hways.keep hw.chg)) ?_
  rw [has]
  repeat (first | refine g_op rfl ?_ | refine g_then ?_ | refine g_nil ?_ | refine g_region ?_ | refine g_seq ?_ | refine g_alloc rfl fun _ _ => ?_ | refine g_storeAgg ?_ | refine g_skip ?_ | refine g_condF ?_)
  rename_i p7 _
  refine g_callK (s := 2) (l := backL X.blocks) (V := PairV) (mk := fun v => v) rfl (fun w hw => refBackK _ _ _ X.blocks _ ⟨_, _, _, rfl⟩ w (hbv0.keep keeps_block hw.chg) (by omega) hok hpos) fun sa sc sp => ?_
  repeat (first | refine g_op rfl ?_ | refine g_then ?_ | refine g_nil ?_ | refine g_region ?_ | refine g_seq ?_ | refine g_block ?_)
  have hbkl := backL_len (bl := X.blocks) (by omega)
  refine g_loop (fun (j : Nat) => j ≤ (backL X.blocks).length) (fun j => [(10, .int .i64 j), (8, .bool (decide (domAll X.blocks ((backL X.blocks).take j)))), (9, .slice sa (backL X.blocks).length sc), (1, .int .i64 i), (2, .pointer (some ⟨p2, 0, none⟩)), (5, .bool (decide (tameL X.blocks))), (6, .pointer (some ⟨p6, 0, none⟩)), (7, .pointer (some ⟨p7, 0, none⟩))]) (fun _ => [(⟨sp, fun w => SlAt w (.slice sa (backL X.blocks).length sc) 2 (backL X.blocks) PairV⟩ : Ent), Ent.box p7 [.int .i64 0, .int .i64 0] 29, Ent.box p6 [.int .i64 0, .int .i64 0] 29, Ent.box p2 [.slice ga gn gc, .slice fa fn fc] 25]) (fun j => (backL X.blocks).length - j) 0 (Nat.zero_le _) ?_ fun j hj => ?_
  · rw [show decide (domAll X.blocks ((backL X.blocks).take 0)) = true by simp [domAll]]
    exact g_done (by repeat (first | exact trivial | refine ⟨rfl, ?_⟩)) (List.Sublist.refl _)
  repeat (first | refine g_op rfl ?_ | refine g_then ?_ | refine g_nil ?_ | refine g_region ?_ | refine g_seq ?_)
  refine g_cond (fun h1 => ?_) (fun h1 => ?_)
  · have hlt : j < (backL X.blocks).length := by simpa using h1
    obtain ⟨p, hp⟩ : ∃ p, (backL X.blocks)[j]? = some p := ⟨_, List.getElem?_eq_getElem hlt⟩
    have htk : (backL X.blocks).take (j + 1) = (backL X.blocks).take j ++ [p] := by rw [List.take_add_one, hp]; rfl
    have hnext : decide (domAll X.blocks ((backL X.blocks).take (j + 1))) = (decide (domAll X.blocks ((backL X.blocks).take j)) && decide (Dom X.blocks p.2 p.1)) := by
      rw [htk, ← Bool.decide_and, decide_eq_decide]
      simp only [domAll, List.mem_append, List.mem_singleton]
      exact ⟨fun h => ⟨fun q hq => h q (.inl hq), h p (.inr rfl)⟩, fun h q hq => hq.elim (h.1 q) fun e => e ▸ h.2⟩
    refine g_know 0 rfl (φ := ∃ b o, sa = some ⟨b, o, none⟩) (fun w h => by
      obtain ⟨_, _, _, b, o, ha, _⟩ := SlAt.at h
      exact ⟨b, o, ha (ne_of_get hp)⟩) fun ⟨b, o, e⟩ => ?_
    subst e
    have hcell : ∀ S w0 w (H : List Ent), Wd S w0 (⟨sp, fun w => SlAt w (.slice (some ⟨b, o, none⟩) (backL X.blocks).length sc) 2 (backL X.blocks) PairV⟩ :: H) w → CellsAt w b (o + j * 2) [.int .i64 (p.1 : Int), .int .i64 (p.2 : Int)] := fun _ _ w H hw => by
      have h : SlAt w (.slice (some ⟨b, o, none⟩) (backL X.blocks).length sc) 2 (backL X.blocks) PairV := hw.get (k := 0) rfl
      obtain ⟨cs, hc, rfl⟩ := h.known j p hp
      exact hc
    have hoc1 : OwnCell [⟨sp, fun w => SlAt w (.slice (some ⟨b, o, none⟩) (backL X.blocks).length sc) 2 (backL X.blocks) PairV⟩, Ent.box p7 [.int .i64 0, .int .i64 0] 29, Ent.box p6 [.int .i64 0, .int .i64 0] 29, Ent.box p2 [.slice ga gn gc, .slice fa fn fc] 25] b (o + j * 2 + 1 * 1) (.int .i64 (p.2 : Int)) := ⟨fun _ _ w hw => hcell _ _ w _ hw 1 _ rfl⟩
    have hoc0 : OwnCell [⟨sp, fun w => SlAt w (.slice (some ⟨b, o, none⟩) (backL X.blocks).length sc) 2 (backL X.blocks) PairV⟩, Ent.box p7 [.int .i64 0, .int .i64 0] 29, Ent.box p6 [.int .i64 0, .int .i64 0] 29, Ent.box p2 [.slice ga gn gc, .slice fa fn fc] 25] b (o + j * 2) (.int .i64 (p.1 : Int)) := ⟨fun _ _ w hw => hcell _ _ w _ hw 0 _ rfl⟩
    have hl0 : LtIs 0 2 := ⟨by omega⟩
    have hl1 : LtIs 1 2 := ⟨by omega⟩
    have hlj : LtIs j (backL X.blocks).length := ⟨hlt⟩
    repeat (first | refine g_then ?_ | refine g_seq ?_ | refine g_block ?_ | refine g_skip ?_)
    generalize hwn : decide (domAll X.blocks ((backL X.blocks).take j)) = wn at hnext ⊢
    refine g_drawH [⟨sp, fun w => SlAt w (.slice (some ⟨b, o, none⟩) (backL X.blocks).length sc) 2 (backL X.blocks) PairV⟩, Ent.box p7 [.int .i64 0, .int .i64 0] 29, Ent.box p6 [.int .i64 0, .int .i64 0] 29, Ent.box p2 [.slice ga gn gc, .slice fa fn fc] 25] mixed (List.Sublist.refl _) ?_
    cases wn
    · skip
      refine h_take 0 rfl (by decide +kernel) (List.Sublist.refl _) ?_
      refine h_take 1 rfl (by decide +kernel) (List.Sublist.refl _) ?_
      refine h_takeP 2 rfl (by decide +kernel) (List.Sublist.refl _) ?_
      refine h_takeP 3 rfl (by decide +kernel) (List.Sublist.refl _) ?_
      refine h_takeP 4 rfl (by decide +kernel) (List.Sublist.refl _) ?_
      refine h_takeP 5 rfl (by decide +kernel) (List.Sublist.refl _) ?_
      refine h_takeP 6 rfl (by decide +kernel) (List.Sublist.refl _) ?_
      refine h_takeP 7 rfl (by decide +kernel) (List.Sublist.refl _) ?_
      refine h_takeP 8 rfl (by decide +kernel) (List.Sublist.refl _) ?_
      refine h_takeP 9 rfl (by decide +kernel) (List.Sublist.refl _) ?_
      refine h_takeP 10 rfl (by decide +kernel) (List.Sublist.refl _) ?_
      refine h_takeP 11 rfl (by decide +kernel) (List.Sublist.refl _) ?_
      refine h_takeP 12 rfl (by decide +kernel) (List.Sublist.refl _) ?_
      refine h_takeP 13 rfl (by decide +kernel) (List.Sublist.refl _) ?_
      refine h_takeP 14 rfl (by decide +kernel) (List.Sublist.refl _) ?_
      refine h_takeP 15 rfl (by decide +kernel) (List.Sublist.refl _) ?_
      refine h_takeP 16 rfl (by decide +kernel) (List.Sublist.refl _) ?_
      refine h_takeP 17 rfl (by decide +kernel) (List.Sublist.refl _) ?_
      refine h_take 18 rfl (by decide +kernel) (List.Sublist.refl _) ?_
      refine g_fix (L' := [(64, .bool false), (10, .int .i64 j), (9, .slice (some ⟨b, o, none⟩) (backL X.blocks).length sc), (1, .int .i64 i), (2, .pointer (some ⟨p2, 0, none⟩)), (5, .bool (decide (tameL X.blocks))), (6, .pointer (some ⟨p6, 0, none⟩)), (7, .pointer (some ⟨p7, 0, none⟩))]) (by repeat (first | exact trivial | refine ⟨rfl, ?_⟩)) (List.Sublist.refl _) ?_
      refine h_take 19 rfl (by decide +kernel) (List.Sublist.refl _) ?_
      refine h_end (by decide +kernel) ?_
      repeat (first | refine g_op rfl ?_ | refine g_then ?_ | refine g_nil ?_ | refine g_region ?_ | refine g_opS rfl ?_ | refine g_inBlock ?_ | refine g_add rfl (by omega) (by omega) ?_)
      refine g_fix (L' := [(10, .int .i64 ((j : Int) + 1)), (8, .bool (decide (domAll X.blocks ((backL X.blocks).take (j + 1))))), (9, .slice (some ⟨b, o, none⟩) (backL X.blocks).length sc), (1, .int .i64 i), (2, .pointer (some ⟨p2, 0, none⟩)), (5, .bool (decide (tameL X.blocks))), (6, .pointer (some ⟨p6, 0, none⟩)), (7, .pointer (some ⟨p7, 0, none⟩))]) (by rw [hnext, Bool.false_and]; exact (by repeat (first | exact trivial | refine ⟨rfl, ?_⟩))) (List.Sublist.refl _) ?_
      exact g_next (j + 1) hlt (by omega) (by repeat (first | exact trivial | refine ⟨rfl, ?_⟩)) (List.Sublist.refl _)
    · skip
      refine h_take 0 rfl (by decide +kernel) (List.Sublist.refl _) ?_
      refine h_take 1 rfl (by decide +kernel) (List.Sublist.refl _) ?_
      refine h_takeG 2 rfl (by decide +kernel) (List.Sublist.refl _) ?_
      refine h_takeG 3 rfl (by decide +kernel) (List.Sublist.refl _) ?_
      refine h_takeG 4 rfl (by decide +kernel) (List.Sublist.refl _) ?_
      refine h_takeG 5 rfl (by decide +kernel) (List.Sublist.refl _) ?_
      refine h_takeG 6 rfl (by decide +kernel) (List.Sublist.refl _) ?_
      refine h_takeG 7 rfl (by decide +kernel) (List.Sublist.refl _) ?_
      refine h_takeG 8 rfl (by decide +kernel) (List.Sublist.refl _) ?_
      refine h_takeG 9 rfl (by decide +kernel) (List.Sublist.refl _) ?_
      refine h_takeG 10 rfl (by decide +kernel) (List.Sublist.refl _) ?_
      refine h_takeG 11 rfl (by decide +kernel) (List.Sublist.refl _) ?_
      refine h_takeG 12 rfl (by decide +kernel) (List.Sublist.refl _) ?_
      refine h_takeG 13 rfl (by decide +kernel) (List.Sublist.refl _) ?_
      refine h_takeG 14 rfl (by decide +kernel) (List.Sublist.refl _) ?_
      refine h_takeG 15 rfl (by decide +kernel) (List.Sublist.refl _) ?_
      rw [show o + j * 2 + 0 * 1 = o + j * 2 from rfl]
      refine h_takeG 16 rfl (by decide +kernel) (List.Sublist.refl _) ?_
      refine h_callVG 17 rfl (by decide +kernel) (List.Sublist.refl _) (fun w hw => refRules_c _ _ _ X.blocks _ ⟨_, _, _, rfl⟩ p.2 p.1 w (hbv0.keep keeps_block hw.chg) (by omega) hok hpos) ?_
      refine h_take 18 rfl (by decide +kernel) (List.Sublist.refl _) ?_
      refine g_fix (L' := [(64, .bool (decide (Dom X.blocks p.2 p.1))), (10, .int .i64 j), (9, .slice (some ⟨b, o, none⟩) (backL X.blocks).length sc), (1, .int .i64 i), (2, .pointer (some ⟨p2, 0, none⟩)), (5, .bool (decide (tameL X.blocks))), (6, .pointer (some ⟨p6, 0, none⟩)), (7, .pointer (some ⟨p7, 0, none⟩))]) (by repeat (first | exact trivial | refine ⟨rfl, ?_⟩)) (List.Sublist.refl _) ?_
      refine h_take 19 rfl (by decide +kernel) (List.Sublist.refl _) ?_
      refine h_end (by decide +kernel) ?_
      repeat (first | refine g_op rfl ?_ | refine g_then ?_ | refine g_nil ?_ | refine g_region ?_ | refine g_opS rfl ?_ | refine g_inBlock ?_ | refine g_add rfl (by omega) (by omega) ?_)
      refine g_fix (L' := [(10, .int .i64 ((j : Int) + 1)), (8, .bool (decide (domAll X.blocks ((backL X.blocks).take (j + 1))))), (9, .slice (some ⟨b, o, none⟩) (backL X.blocks).length sc), (1, .int .i64 i), (2, .pointer (some ⟨p2, 0, none⟩)), (5, .bool (decide (tameL X.blocks))), (6, .pointer (some ⟨p6, 0, none⟩)), (7, .pointer (some ⟨p7, 0, none⟩))]) (by rw [hnext, Bool.true_and]; exact (by repeat (first | exact trivial | refine ⟨rfl, ?_⟩))) (List.Sublist.refl _) ?_
      exact g_next (j + 1) hlt (by omega) (by repeat (first | exact trivial | refine ⟨rfl, ?_⟩)) (List.Sublist.refl _)
  · have hge : j = (backL X.blocks).length := by have := h1; simp at this; omega
    rw [hge, List.take_length, show domAll X.blocks (backL X.blocks) = tameL X.blocks from rfl]
    repeat (first | refine g_then ?_ | refine g_region ?_ | refine g_seq ?_ | refine g_exit ?_ | refine g_thenExit ?_ | refine g_exitHere ?_)
    refine g_callK (s := 4) (l := ringU.funcs) (V := FuncV) (mk := fun v => .agg #[.slice none 0 0, v]) rfl (fun w hw => ring_c w) fun ra rc rp => ?_
    skip
    refine g_callV rfl (fun w hw => tame_ok ringU ring_light 0 (congrArg Prod.fst ring_asked) ringF rfl ring_good (by decide) (by rw [ring_check]) _ _ w (nil_sl _ _ _) (hw.get (k := 0) rfl) (hways.keep hw.chg)) ?_
    rw [show decide (tameL ringF.blocks) = true from decide_eq_true ring_tame]
    repeat (first | refine g_op rfl ?_ | refine g_then ?_ | refine g_nil ?_ | refine g_region ?_ | refine g_seq ?_ | refine g_open ?_ | refine g_alloc rfl fun _ _ => ?_ | refine g_storeAgg ?_)
    generalize decide (tameL X.blocks) = tm
    rw [show (tm == tm) = true by simp, show decide ((0 : Int) = 0) = true from rfl]
    simp only [Bool.and_self]
    repeat (first | refine g_op rfl ?_ | refine g_then ?_ | refine g_nil ?_ | refine g_open ?_ | refine g_ret ?_)
    exact g_retV rfl rfl
end Go.Proofs.YtoahickmkkcneaaDoor
