/- slices.Backward, graph.Post and its closure: what each does. -/
import Derived.Test.YtebajiafdkokjaaDoorRange
import Derived.Test.YtebajiafdkokjaaDoorDfs
import Derived.Test.YtebajiafdkokjaaDoorSureA
namespace Go.Proofs.YtebajiafdkokjaaDoor
open Go Go.RowKit
attribute [local irreducible] wpListIn Code.wpIn Exit.then Exit.inBlock bodyPost wpQuiet wpAnyIn bodyPostM
set_option maxHeartbeats 4000000

theorem backward_c (v : Value) (hv : ∃ a n c, v = .slice a n c) (w0 : World) : Ret Tryd.prog 83 [v] w0 fun u w' => ∃ p : Nat, u = .func (.func 117) #[] #[.pointer (some ⟨p, 0, none⟩)] ∧ Wd NoS w0 [Ent.box p [v] 27] w' ∧ True := by
  obtain ⟨a, n, c, rfl⟩ := hv
  refine ret_enter Tryd.func83 rfl Tryd.ntmps83 rfl (Wd.nil NoS w0) ?_
  repeat (first | refine g_op rfl ?_ | refine g_then ?_ | refine g_nil ?_ | refine g_region ?_ | refine g_seq ?_ | refine g_opS rfl ?_ | refine g_open ?_ | refine g_pass rfl ?_ | refine g_store ?_ | refine g_box rfl fun _ _ => ?_ | refine g_alloc rfl fun _ _ => ?_ | refine g_allocS rfl fun _ _ => ?_ | refine g_storeAgg ?_ | refine g_inBlock ?_ | refine g_block ?_ | refine g_skip ?_ | refine g_condT ?_ | refine g_condF ?_ | refine g_add rfl (by omega) (by omega) ?_ | refine g_sub rfl (by omega) (by omega) ?_ | refine g_exit ?_ | refine g_thenExit ?_ | refine g_exitHere ?_ | refine g_exitOn rfl ?_ | refine g_ret ?_ | refine g_thenRet ?_ | refine g_blockRet ?_ | refine g_passS rfl ?_ | refine g_pass0 ?_ | refine g_passU rfl ?_ | refine g_passUS rfl ?_ | refine g_storeV ?_ | refine g_build1 rfl rfl fun _ _ => ?_ | refine g_buildN rfl rfl fun _ _ => ?_ | refine g_make rfl (by omega) (by omega) fun _ _ => ?_)
  exact g_ret1 rfl fun w hw => ⟨_, rfl, hw, trivial⟩
theorem backStops {α : Type} {enc : α → Int × Int} {K : Nat → Prop} {w0 w : World} {Bs n c : Nat} {a : Option Addr} {zs : List Int} {xs : List α} (hsl : SlAt w0 (.slice a n c) 1 zs IntV) (hlen : zs.length ≤ 100000) (hK : ∀ b, b < w0.heap.size → K b) (hKB : K Bs) (hw : Chg NoS w0 w)
    (hB : w.cell? ⟨Bs, 0, none⟩ = some (.slice a n c)) (hxs : xs.map enc = downTo zs zs.length) :
    SeqStopsK (FW none) 4 Tryd.prog 117 #[.pointer (some ⟨Bs, 0, none⟩)] (fun x => #[.int .i64 (enc x).1, .int .i64 (enc x).2]) (KeepB K) (fun ys => ys = xs) (fun pre => pre <+: xs) xs.length w := by
  intro l J Jx W hW _ _ hY h0
  have hxl : xs.length = zs.length := by have := congrArg List.length hxs; rwa [List.length_map, downTo_length] at this
  obtain ⟨a', n', c', b, o, hv, hn, _, _, _, ha, hel⟩ := hsl
  simp only [Value.slice.injEq] at hv
  obtain ⟨rfl, rfl, rfl⟩ := hv
  subst hn
  have hcell : ∀ j, j < zs.length → w0.cell? ⟨b, o + j, none⟩ = some (.int .i64 (zs[j]?.getD 0)) := fun j hj => by
    obtain ⟨cs, hc, rfl, _⟩ := hel j _ (List.getElem?_eq_getElem hj)
    have := hc 0 _ rfl
    simpa [hj] using this
  refine backInt1_in 4 (by omega) enc l Bs b o c K zs xs hxs hlen (fun hne => hK b ?_) hKB J Jx a (fun hne => ha hne) (fun pre x W1 hJ hl => hY pre x W1 hJ (by omega)) W ((hW.cell (p := ⟨Bs, 0, none⟩) (World.block_lt_of_cell? w _ hB)).trans hB) (fun j hj => ?_) h0
  · exact World.block_lt_of_cell? w0 _ (hcell 0 (List.length_pos_iff.2 hne))
  · have h1 := cell_keep hw (hcell j hj)
    exact (hW.cell (World.block_lt_of_cell? w _ h1)).trans h1
/-- rounds over such pairs -/
abbrev BackA (n : Nat) : Type := { p : Int × Nat // p.2 < n }
def BackA.enc {n : Nat} (x : BackA n) : Int × Int := (x.1.1, (x.1.2 : Int))
theorem backA_ex {n : Nat} : ∀ l : List (Int × Int), (∀ p ∈ l, 0 ≤ p.2 ∧ p.2 < n) → ∃ xs : List (BackA n), xs.map BackA.enc = l
  | [], _ => ⟨[], rfl⟩
  | p :: l, h => by
    obtain ⟨xs, hxs⟩ := backA_ex l fun q hq => h q (List.mem_cons_of_mem _ hq)
    have hp := h p (by simp)
    refine ⟨⟨(p.1, p.2.toNat), by simp only; omega⟩ :: xs, ?_⟩
    rw [List.map_cons, hxs]
    simp only [BackA.enc]
    congr 1
    rw [show ((p.2.toNat : Nat) : Int) = p.2 by omega]
theorem downTo_snd (zs : List Int) : (downTo zs zs.length).map (·.2) = zs.reverse := by
  apply List.ext_getElem?
  intro i
  rw [downTo, List.map_map, List.getElem?_map]
  by_cases hi : i < zs.length
  · rw [List.getElem?_range hi, List.getElem?_reverse hi]
    have : zs.length - 1 - i < zs.length := by omega
    simp [this]
  · rw [List.getElem?_eq_none (by rw [List.length_range]; omega), List.getElem?_eq_none (by rw [List.length_reverse]; omega)]; rfl
theorem downTo_mem {zs : List Int} {p : Int × Int} (h : p ∈ downTo zs zs.length) : p.2 ∈ zs := by
  have : p.2 ∈ (downTo zs zs.length).map (·.2) := List.mem_map.2 ⟨p, h, rfl⟩
  rw [downTo_snd] at this
  simpa using this

/-- what 'visit' is handed: what has been seen and left -/
def visE (n : Nat) (pl sb : Nat) (s : (List Bool × List Nat) × (Option Addr × Nat)) : List Ent :=
  [Ent.box pl [.slice s.2.1 s.1.2.length s.2.2] 27, Ent.vec s.2.1 s.1.2.length s.2.2 3 1 (s.1.2.map intN), Ent.vec (some ⟨sb, 0, none⟩) n n 4 1 (s.1.1.map .bool)]
def visF (nm pa re : Value) (ba : Option Addr) (n bc ps pf pv pl sb : Nat) : List Ent := [Ent.box ps [.slice (some ⟨sb, 0, none⟩) n n] 38, Ent.box pf [nm, pa, re, .slice ba n bc] 35, Ent.box pv [.func (.func 82) #[] #[.pointer (some ⟨ps, 0, none⟩), .pointer (some ⟨pf, 0, none⟩), .pointer (some ⟨pv, 0, none⟩), .pointer (some ⟨pl, 0, none⟩)]] 118]
theorem visit_c (nm pa re : Value) (bl : List LBlock) (ba : Option Addr) (n bc ps pf pv pl sb : Nat) (wz : World) (hbs : SlAt wz (.slice ba n bc) 6 bl BlockV) (hlen : bl.length ≤ 100) (hok : GoodB bl) :
    ∀ (f b : Nat) (s : (List Bool × List Nat) × (Option Addr × Nat)), s.1.1.length = bl.length → s.1.1[b]? = some false → unseen s.1.1 ≤ f → s.1.2.length + unseen s.1.1 ≤ n → ∀ w, Wd NoS wz (visE n pl sb s ++ visF nm pa re ba n bc ps pf pv pl sb) w →
    Ret Tryd.prog 82 [.int .i64 b, .pointer (some ⟨ps, 0, none⟩), .pointer (some ⟨pf, 0, none⟩), .pointer (some ⟨pv, 0, none⟩), .pointer (some ⟨pl, 0, none⟩)] w fun u w' => ∃ z : Option Addr × Nat, u = .tuple #[] ∧ Wd (fps (visE n pl sb s ++ visF nm pa re ba n bc ps pf pv pl sb)) w (visE n pl sb (dfs bl f b s.1, z) ++ visF nm pa re ba n bc ps pf pv pl sb) w' ∧ True := by
  have hbs0 := hbs
  obtain ⟨ba, n, bc, bb, bo', hv, hn, hnc, hnb, hbc, hba, hel⟩ := hbs
  simp only [Value.slice.injEq] at hv
  obtain ⟨rfl, rfl, rfl⟩ := hv
  intro f
  induction f with
  | zero => intro b s _ hb hu; have := unseen_pos hb; omega
  | succ f ih =>
    rintro b ⟨⟨seen, left⟩, la, lc⟩ hl hb hu hle w hw
    simp only at hl hb hu hle
    have hus := unseen_set hb
    have hbn : b < n := by have := (List.getElem?_eq_some_iff.1 hb).1; omega
    obtain ⟨B, hB⟩ := get_lt hn hbn
    have had : AddrIs ba bb bo' := ⟨hba (ne_of_get hB)⟩
    have hli : LtIs b n := ⟨hbn⟩
    obtain ⟨cs, hcs, pv', lv, tv, rfl, _, _, hphis, hlist, ht⟩ := hel b B hB
    have ht0 := ht
    obtain ⟨ta, tn, tc, tb, to', rfl, htn, htnc, htnb, htc, hta, htel⟩ := ht
    have hci : CellsIs wz bb (bo' + b * 6) _ := ⟨hcs⟩
    have hBok := hok B (List.mem_of_getElem? hB)
    have hea : ElAt seen b false := ⟨hb⟩
    have hz := hw.chg
    refine ret_enterM (w0 := wz) (S := NoS) Tryd.func82 rfl Tryd.ntmps82 rfl hw.withRest ?_
    generalize hrest : Ent.rest (restOf wz.heap.size w (visE n pl sb ((seen, left), la, lc) ++ visF nm pa re ba n bc ps pf pv pl sb)) w = RS
    simp only [visE, visF, List.cons_append, List.nil_append]
    repeat (first | refine g_op rfl ?_ | refine g_then ?_ | refine g_nil ?_ | refine g_region ?_ | refine g_seq ?_ | refine g_opS rfl ?_ | refine g_open ?_ | refine g_pass rfl ?_ | refine g_store ?_ | refine g_box rfl fun _ _ => ?_ | refine g_alloc rfl fun _ _ => ?_ | refine g_allocS rfl fun _ _ => ?_ | refine g_storeAgg ?_ | refine g_inBlock ?_ | refine g_block ?_ | refine g_skip ?_ | refine g_condT ?_ | refine g_condF ?_ | refine g_add rfl (by omega) (by omega) ?_ | refine g_sub rfl (by omega) (by omega) ?_ | refine g_exit ?_ | refine g_thenExit ?_ | refine g_exitHere ?_ | refine g_exitOn rfl ?_ | refine g_ret ?_ | refine g_thenRet ?_ | refine g_blockRet ?_ | refine g_passS rfl ?_ | refine g_pass0 ?_ | refine g_passU rfl ?_ | refine g_passUS rfl ?_ | refine g_storeV ?_ | refine g_build1 rfl rfl fun _ _ => ?_ | refine g_buildN rfl rfl fun _ _ => ?_ | refine g_make rfl (by omega) (by omega) fun _ _ => ?_)
    refine g_callE (val := fun p : Nat => .func (.func 117) #[] #[.pointer (some ⟨p, 0, none⟩)]) (E := fun p => [Ent.box p [.slice ta tn tc] 27]) (φ := fun _ => True) rfl (fun w hw => backward_c _ ⟨_, _, _, rfl⟩ w) fun Bs _ => ?_
    simp only [List.cons_append, List.nil_append]
    repeat (first | refine g_op rfl ?_ | refine g_then ?_ | refine g_nil ?_ | refine g_region ?_ | refine g_seq ?_ | refine g_opS rfl ?_ | refine g_open ?_ | refine g_pass rfl ?_ | refine g_store ?_ | refine g_box rfl fun _ _ => ?_ | refine g_alloc rfl fun _ _ => ?_ | refine g_allocS rfl fun _ _ => ?_ | refine g_storeAgg ?_ | refine g_inBlock ?_ | refine g_block ?_ | refine g_skip ?_ | refine g_condT ?_ | refine g_condF ?_ | refine g_add rfl (by omega) (by omega) ?_ | refine g_sub rfl (by omega) (by omega) ?_ | refine g_exit ?_ | refine g_thenExit ?_ | refine g_exitHere ?_ | refine g_exitOn rfl ?_ | refine g_ret ?_ | refine g_thenRet ?_ | refine g_blockRet ?_ | refine g_passS rfl ?_ | refine g_pass0 ?_ | refine g_passU rfl ?_ | refine g_passUS rfl ?_ | refine g_storeV ?_ | refine g_build1 rfl rfl fun _ _ => ?_ | refine g_buildN rfl rfl fun _ _ => ?_ | refine g_make rfl (by omega) (by omega) fun _ _ => ?_)
    obtain ⟨xs, hxs⟩ := backA_ex (n := n) (downTo B.to B.to.length) fun p hp => by have := hBok.2 p.2 (downTo_mem hp); omega
    refine g_fix (L' := [(18, .func (.func 117) #[] #[.pointer (some ⟨Bs, 0, none⟩)]), (0, .int .i64 b), (1, .pointer (some ⟨ps, 0, none⟩)), (2, .pointer (some ⟨pf, 0, none⟩)), (3, .pointer (some ⟨pv, 0, none⟩)), (4, .pointer (some ⟨pl, 0, none⟩))]) (by repeat (first | exact trivial | refine ⟨rfl, ?_⟩)) (List.Sublist.refl _) ?_
    refine g_sel [2, 3, 4, 5, 6, 7, 0, 1] (by decide) ?_
    have hvt : visE n pl sb ((seen.set b true, left), (la, lc)) = [Ent.box pl [.slice la left.length lc] 27, Ent.vec la left.length lc 3 1 (left.map intN), Ent.vec (some ⟨sb, 0, none⟩) n n 4 1 ((seen.set b true).map .bool)] := rfl
    refine g_range (α := BackA n) (gf := 117) (lb := [.pointer (some ⟨Bs, 0, none⟩)]) [Ent.box ps [.slice (some ⟨sb, 0, none⟩) n n] 38, Ent.box pf [nm, pa, re, .slice ba n bc] 35, Ent.box pv [.func (.func 82) #[] #[.pointer (some ⟨ps, 0, none⟩), .pointer (some ⟨pf, 0, none⟩), .pointer (some ⟨pv, 0, none⟩), .pointer (some ⟨pl, 0, none⟩)]] 118, Ent.box Bs [.slice ta tn tc] 27, RS] (visE n pl sb) (fun s => ⟨by intro e he; simp only [visE, List.mem_cons, List.not_mem_nil, or_false] at he; rcases he with rfl | rfl | rfl <;> infer_instance⟩) xs (encs := fun x => #[.int .i64 (BackA.enc x).1, .int .i64 (BackA.enc x).2]) (Bs := Bs) (bcs := [.slice ta tn tc]) (bt := 27) (by simp)
      (fun w hw => backStops (enc := BackA.enc) ht0 (by omega) (fun b hb => .inl ⟨hb, fun h => h⟩) (.inr rfl) hw.chg (hw.boxCells Bs 0 _ rfl) hxs)
      (fun pre s => s.1 = (pre.map fun x => x.1.2).foldl (vstep bl f) (seen.set b true, left)) ((seen.set b true, left), (la, lc)) rfl (List.Sublist.refl _) (fun _ => rfl)
      (fun x => [(20, .int .i64 (x.1.2 : Int)), (19, .int .i64 x.1.1), (0, .int .i64 b), (1, .pointer (some ⟨ps, 0, none⟩)), (2, .pointer (some ⟨pf, 0, none⟩)), (3, .pointer (some ⟨pv, 0, none⟩)), (4, .pointer (some ⟨pl, 0, none⟩))]) (fun x => [(7, .int .i64 (x.1.2 : Int)), (0, .int .i64 b), (1, .pointer (some ⟨ps, 0, none⟩)), (2, .pointer (some ⟨pf, 0, none⟩)), (3, .pointer (some ⟨pv, 0, none⟩)), (4, .pointer (some ⟨pl, 0, none⟩))]) (fun x a h => ?_) (fun l x s R => ?_) (fun l pre x s R hI hlt => ?_) fun D s hD hI => ?_
    · have h2 := ((h.to (L' := [(0, .int .i64 b), (1, .pointer (some ⟨ps, 0, none⟩)), (2, .pointer (some ⟨pf, 0, none⟩)), (3, .pointer (some ⟨pv, 0, none⟩)), (4, .pointer (some ⟨pl, 0, none⟩))]) (by repeat (first | exact trivial | refine ⟨rfl, ?_⟩))).putOk (d := 19) rfl (.int .i64 x.1.1)).putOk (d := 20) rfl (.int .i64 (x.1.2 : Int))
      have e : (#[19, 20].zip #[Value.int .i64 (BackA.enc x).1, Value.int .i64 (BackA.enc x).2]).foldl (fun (t : Array Value) (q : Tmp × Value) => t.setIfInBounds q.1 q.2) a.tmps = (a.tmps.setIfInBounds 19 (.int .i64 x.1.1)).setIfInBounds 20 (.int .i64 (x.1.2 : Int)) := by simp [BackA.enc]
      refine ⟨Eq.trans (congrArg Array.size e) h2.size, rfl, fun p hp => ?_⟩
      exact Eq.trans (congrArg (fun t : Array Value => t[p.1]?) e) (h2.slot p hp)
    · repeat (first | refine g_op rfl ?_ | refine g_then ?_ | refine g_nil ?_ | refine g_region ?_ | refine g_seq ?_ | refine g_opS rfl ?_ | refine g_open ?_ | refine g_pass rfl ?_ | refine g_store ?_ | refine g_box rfl fun _ _ => ?_ | refine g_alloc rfl fun _ _ => ?_ | refine g_allocS rfl fun _ _ => ?_ | refine g_storeAgg ?_ | refine g_inBlock ?_ | refine g_block ?_ | refine g_skip ?_ | refine g_condT ?_ | refine g_condF ?_ | refine g_add rfl (by omega) (by omega) ?_ | refine g_sub rfl (by omega) (by omega) ?_ | refine g_exit ?_ | refine g_thenExit ?_ | refine g_exitHere ?_ | refine g_exitOn rfl ?_ | refine g_ret ?_ | refine g_thenRet ?_ | refine g_blockRet ?_ | refine g_passS rfl ?_ | refine g_pass0 ?_ | refine g_passU rfl ?_ | refine g_passUS rfl ?_ | refine g_storeV ?_ | refine g_build1 rfl rfl fun _ _ => ?_ | refine g_buildN rfl rfl fun _ _ => ?_ | refine g_make rfl (by omega) (by omega) fun _ _ => ?_)
      exact g_done (by repeat (first | exact trivial | refine ⟨rfl, ?_⟩)) (List.Sublist.refl _)
    · obtain ⟨⟨i0, t⟩, htn'⟩ := x
      obtain ⟨⟨sn, lf⟩, la', lc'⟩ := s
      simp only at hI htn'
      have hg := vsteps_grows bl f (seen.set b true, left) (pre.map fun x => x.1.2)
      rw [← hI] at hg
      have hsl : sn.length = n := by have := hg.1; simp at this; omega
      have hg3 := hg.2.2.1
      have hg4 := hg.2.2.2
      simp only at hg3 hg4
      obtain ⟨sv, hsv⟩ : ∃ sv, sn[t]? = some sv := ⟨_, List.getElem?_eq_getElem (by omega)⟩
      have hes : ElAt sn t sv := ⟨hsv⟩
      have hlt2 : LtIs t n := ⟨htn'⟩
      have hstep : ((pre ++ [(⟨(i0, t), htn'⟩ : BackA n)]).map fun x : BackA n => x.1.2).foldl (vstep bl f) (seen.set b true, left) = vstep bl f (sn, lf) t := by
        rw [List.map_append, List.foldl_append, ← hI]; rfl
      rw [hstep]
      simp only [visE, List.cons_append, List.nil_append]
      cases sv
      · have hv : vstep bl f (sn, lf) t = dfs bl f t (sn, lf) := by unfold vstep; simp [hsv]
        rw [hv]
        repeat (first | refine g_op rfl ?_ | refine g_then ?_ | refine g_nil ?_ | refine g_region ?_ | refine g_seq ?_ | refine g_opS rfl ?_ | refine g_open ?_ | refine g_pass rfl ?_ | refine g_store ?_ | refine g_box rfl fun _ _ => ?_ | refine g_alloc rfl fun _ _ => ?_ | refine g_allocS rfl fun _ _ => ?_ | refine g_storeAgg ?_ | refine g_inBlock ?_ | refine g_block ?_ | refine g_skip ?_ | refine g_condT ?_ | refine g_condF ?_ | refine g_add rfl (by omega) (by omega) ?_ | refine g_sub rfl (by omega) (by omega) ?_ | refine g_exit ?_ | refine g_thenExit ?_ | refine g_exitHere ?_ | refine g_exitOn rfl ?_ | refine g_ret ?_ | refine g_thenRet ?_ | refine g_blockRet ?_ | refine g_passS rfl ?_ | refine g_pass0 ?_ | refine g_passU rfl ?_ | refine g_passUS rfl ?_ | refine g_storeV ?_ | refine g_build1 rfl rfl fun _ _ => ?_ | refine g_buildN rfl rfl fun _ _ => ?_ | refine g_make rfl (by omega) (by omega) fun _ _ => ?_)
        refine g_sel [1, 2, 3, 4, 5, 6, 0, 7, 8] (by decide) ?_
        refine g_eqH (H1 := (visE n pl sb ((sn, lf), la', lc') ++ visF nm pa re ba n bc ps pf pv pl sb) ++ [R, Ent.box Bs [.slice ta tn tc] 27, RS]) rfl ?_
        refine g_callFS (val := fun _ : Option Addr × Nat => .tuple #[]) (E := fun z => visE n pl sb (dfs bl f t (sn, lf), z) ++ visF nm pa re ba n bc ps pf pv pl sb) (φ := fun _ => True) (us := []) (vs := [.int .i64 (t : Int)]) (xs := [.pointer (some ⟨ps, 0, none⟩), .pointer (some ⟨pf, 0, none⟩), .pointer (some ⟨pv, 0, none⟩), .pointer (some ⟨pl, 0, none⟩)]) rfl
          (fun w hw => ih t ((sn, lf), la', lc') (by simp only; omega) hsv (by simp only; omega) (by simp only; omega) w (hw.sub (List.sublist_append_left _ _))) fun z _ => ?_
        simp only [visE, visF, List.cons_append, List.nil_append]
        repeat (first | refine g_op rfl ?_ | refine g_then ?_ | refine g_nil ?_ | refine g_region ?_ | refine g_seq ?_ | refine g_opS rfl ?_ | refine g_open ?_ | refine g_pass rfl ?_ | refine g_store ?_ | refine g_box rfl fun _ _ => ?_ | refine g_alloc rfl fun _ _ => ?_ | refine g_allocS rfl fun _ _ => ?_ | refine g_storeAgg ?_ | refine g_inBlock ?_ | refine g_block ?_ | refine g_skip ?_ | refine g_condT ?_ | refine g_condF ?_ | refine g_add rfl (by omega) (by omega) ?_ | refine g_sub rfl (by omega) (by omega) ?_ | refine g_exit ?_ | refine g_thenExit ?_ | refine g_exitHere ?_ | refine g_exitOn rfl ?_ | refine g_ret ?_ | refine g_thenRet ?_ | refine g_blockRet ?_ | refine g_passS rfl ?_ | refine g_pass0 ?_ | refine g_passU rfl ?_ | refine g_passUS rfl ?_ | refine g_storeV ?_ | refine g_build1 rfl rfl fun _ _ => ?_ | refine g_buildN rfl rfl fun _ _ => ?_ | refine g_make rfl (by omega) (by omega) fun _ _ => ?_)
        refine g_sel [6, 0, 1, 2, 3, 4, 5, 7, 8] (by decide) ?_
        exact g_rnd (dfs bl f t (sn, lf), z) rfl (List.Sublist.refl _)
      · have hv : vstep bl f (sn, lf) t = (sn, lf) := by unfold vstep; simp [hsv]
        rw [hv]
        repeat (first | refine g_op rfl ?_ | refine g_then ?_ | refine g_nil ?_ | refine g_region ?_ | refine g_seq ?_ | refine g_opS rfl ?_ | refine g_open ?_ | refine g_pass rfl ?_ | refine g_store ?_ | refine g_box rfl fun _ _ => ?_ | refine g_alloc rfl fun _ _ => ?_ | refine g_allocS rfl fun _ _ => ?_ | refine g_storeAgg ?_ | refine g_inBlock ?_ | refine g_block ?_ | refine g_skip ?_ | refine g_condT ?_ | refine g_condF ?_ | refine g_add rfl (by omega) (by omega) ?_ | refine g_sub rfl (by omega) (by omega) ?_ | refine g_exit ?_ | refine g_thenExit ?_ | refine g_exitHere ?_ | refine g_exitOn rfl ?_ | refine g_ret ?_ | refine g_thenRet ?_ | refine g_blockRet ?_ | refine g_passS rfl ?_ | refine g_pass0 ?_ | refine g_passU rfl ?_ | refine g_passUS rfl ?_ | refine g_storeV ?_ | refine g_build1 rfl rfl fun _ _ => ?_ | refine g_buildN rfl rfl fun _ _ => ?_ | refine g_make rfl (by omega) (by omega) fun _ _ => ?_)
        exact g_rnd ((sn, lf), la', lc') rfl (List.Sublist.refl _)
    · obtain ⟨⟨sn, lf⟩, la', lc'⟩ := s
      simp only at hI
      have hxm : (xs.map fun x => x.1.2) = (toOf bl b).reverse.map Int.toNat := by
        have h1 := congrArg (List.map (fun p : Int × Int => p.2.toNat)) hxs
        rw [List.map_map] at h1
        rw [show (xs.map fun x => x.1.2) = xs.map ((fun p : Int × Int => p.2.toNat) ∘ BackA.enc) from List.map_congr_left fun x _ => by simp [BackA.enc], h1, toOf_get hB, ← downTo_snd, List.map_map]
        rfl
      rw [hxm] at hI
      have hd : dfs bl (f + 1) b (seen, left) = (sn, lf ++ [b]) := by rw [dfs_succ]; simp only; rw [← hI]
      have hg := vsteps_grows bl f (seen.set b true, left) ((toOf bl b).reverse.map Int.toNat)
      rw [← hI] at hg
      have hg4 := hg.2.2.2
      simp only at hg4
      simp only [visE, List.cons_append, List.nil_append]
      repeat (first | refine g_op rfl ?_ | refine g_then ?_ | refine g_nil ?_ | refine g_region ?_ | refine g_seq ?_ | refine g_opS rfl ?_ | refine g_open ?_ | refine g_pass rfl ?_ | refine g_store ?_ | refine g_box rfl fun _ _ => ?_ | refine g_alloc rfl fun _ _ => ?_ | refine g_allocS rfl fun _ _ => ?_ | refine g_storeAgg ?_ | refine g_inBlock ?_ | refine g_block ?_ | refine g_skip ?_ | refine g_condT ?_ | refine g_condF ?_ | refine g_add rfl (by omega) (by omega) ?_ | refine g_sub rfl (by omega) (by omega) ?_ | refine g_exit ?_ | refine g_thenExit ?_ | refine g_exitHere ?_ | refine g_exitOn rfl ?_ | refine g_ret ?_ | refine g_thenRet ?_ | refine g_blockRet ?_ | refine g_passS rfl ?_ | refine g_pass0 ?_ | refine g_passU rfl ?_ | refine g_passUS rfl ?_ | refine g_storeV ?_ | refine g_build1 rfl rfl fun _ _ => ?_ | refine g_buildN rfl rfl fun _ _ => ?_ | refine g_make rfl (by omega) (by omega) fun _ _ => ?_)
      refine g_append rfl rfl (by omega) (by omega) fun a' c' => ?_
      rw [show lf.map intN ++ [.int .i64 (b : Int)] = (lf ++ [b]).map intN by simp [intN], show lf.length + 1 = (lf ++ [b]).length by simp]
      repeat (first | refine g_op rfl ?_ | refine g_then ?_ | refine g_nil ?_ | refine g_region ?_ | refine g_seq ?_ | refine g_opS rfl ?_ | refine g_open ?_ | refine g_pass rfl ?_ | refine g_store ?_ | refine g_box rfl fun _ _ => ?_ | refine g_alloc rfl fun _ _ => ?_ | refine g_allocS rfl fun _ _ => ?_ | refine g_storeAgg ?_ | refine g_inBlock ?_ | refine g_block ?_ | refine g_skip ?_ | refine g_condT ?_ | refine g_condF ?_ | refine g_add rfl (by omega) (by omega) ?_ | refine g_sub rfl (by omega) (by omega) ?_ | refine g_exit ?_ | refine g_thenExit ?_ | refine g_exitHere ?_ | refine g_exitOn rfl ?_ | refine g_ret ?_ | refine g_thenRet ?_ | refine g_blockRet ?_ | refine g_passS rfl ?_ | refine g_pass0 ?_ | refine g_passU rfl ?_ | refine g_passUS rfl ?_ | refine g_storeV ?_ | refine g_build1 rfl rfl fun _ _ => ?_ | refine g_buildN rfl rfl fun _ _ => ?_ | refine g_make rfl (by omega) (by omega) fun _ _ => ?_)
      refine g_sel [1, 9, 2, 3, 4, 5, 6, 7] (by decide) ?_
      refine g_endM0 rfl hD fun w' hw' => ⟨(a', c'), rfl, ?_, trivial⟩
      simp only
      rw [hd]
      rw [← hrest] at hw'
      exact wd_rest hz hw'
theorem graphPost_c (nm pa re : Value) (bl : List LBlock) (bs : Value) (w0 : World) (hbs : SlAt w0 bs 6 bl BlockV) (hlen : bl.length ≤ 100) (hok : GoodB bl) (hpos : 0 < bl.length) :
    Ret Tryd.prog 47 [.agg #[nm, pa, re, bs]] w0 fun u w' => ∃ x : Option Addr × Nat, u = .slice x.1 (postL bl).length x.2 ∧ Wd NoS w0 [Ent.vec x.1 (postL bl).length x.2 3 1 ((postL bl).map intN)] w' ∧ True := by
  have hbs0 := hbs
  obtain ⟨ba, n, bc, bb, bo', rfl, hn, hnc, hnb, hbc, hba, hel⟩ := hbs
  refine ret_enter Tryd.func47 rfl Tryd.ntmps47 rfl (Wd.nil NoS w0) ?_
  repeat (first | refine g_op rfl ?_ | refine g_then ?_ | refine g_nil ?_ | refine g_region ?_ | refine g_seq ?_ | refine g_opS rfl ?_ | refine g_open ?_ | refine g_pass rfl ?_ | refine g_store ?_ | refine g_box rfl fun _ _ => ?_ | refine g_alloc rfl fun _ _ => ?_ | refine g_allocS rfl fun _ _ => ?_ | refine g_storeAgg ?_ | refine g_inBlock ?_ | refine g_block ?_ | refine g_skip ?_ | refine g_condT ?_ | refine g_condF ?_ | refine g_add rfl (by omega) (by omega) ?_ | refine g_sub rfl (by omega) (by omega) ?_ | refine g_exit ?_ | refine g_thenExit ?_ | refine g_exitHere ?_ | refine g_exitOn rfl ?_ | refine g_ret ?_ | refine g_thenRet ?_ | refine g_blockRet ?_ | refine g_passS rfl ?_ | refine g_pass0 ?_ | refine g_passU rfl ?_ | refine g_passUS rfl ?_ | refine g_storeV ?_ | refine g_build1 rfl rfl fun _ _ => ?_ | refine g_buildN rfl rfl fun _ _ => ?_ | refine g_make rfl (by omega) (by omega) fun _ _ => ?_)
  rename_i pf _ pl _ sb _ ps _ pv _
  rw [show List.replicate n (Value.bool false) = (List.replicate n false).map Value.bool by simp]
  refine g_nilVec 3 1 ?_
  refine g_sel [4, 0, 3, 2, 5, 1] (by decide) ?_
  refine g_eqH (H1 := (visE n pl sb ((List.replicate n false, []), (none, 0)) ++ visF nm pa re ba n bc ps pf pv pl sb) ++ []) rfl ?_
  refine g_callFS (val := fun _ : Option Addr × Nat => .tuple #[]) (E := fun z => visE n pl sb (dfs bl n 0 (List.replicate n false, []), z) ++ visF nm pa re ba n bc ps pf pv pl sb) (φ := fun _ => True) (us := []) (vs := [.int .i64 ((0 : Nat) : Int)]) (xs := [.pointer (some ⟨ps, 0, none⟩), .pointer (some ⟨pf, 0, none⟩), .pointer (some ⟨pv, 0, none⟩), .pointer (some ⟨pl, 0, none⟩)]) rfl
    (fun w hw => visit_c nm pa re bl ba n bc ps pf pv pl sb w0 hbs0 hlen hok n 0 ((List.replicate n false, []), (none, 0)) (by simpa using hn) (by simp only; rw [List.getElem?_replicate, if_pos (by omega)]) (by simp only [unseen_all]; exact Nat.le_refl _) (by simp only [unseen_all]; simp) w (hw.sub (List.sublist_append_left _ _))) fun z _ => ?_
  obtain ⟨za, zc⟩ := z
  have hp : (dfs bl n 0 (List.replicate n false, [])).2 = postL bl := by unfold postL; rw [← hn]
  generalize dfs bl n 0 (List.replicate n false, []) = d at hp
  obtain ⟨d1, d2⟩ := d
  simp only at hp
  subst hp
  simp only [visE, visF, List.cons_append, List.nil_append]
  repeat (first | refine g_op rfl ?_ | refine g_then ?_ | refine g_nil ?_ | refine g_region ?_ | refine g_seq ?_ | refine g_opS rfl ?_ | refine g_open ?_ | refine g_pass rfl ?_ | refine g_store ?_ | refine g_box rfl fun _ _ => ?_ | refine g_alloc rfl fun _ _ => ?_ | refine g_allocS rfl fun _ _ => ?_ | refine g_storeAgg ?_ | refine g_inBlock ?_ | refine g_block ?_ | refine g_skip ?_ | refine g_condT ?_ | refine g_condF ?_ | refine g_add rfl (by omega) (by omega) ?_ | refine g_sub rfl (by omega) (by omega) ?_ | refine g_exit ?_ | refine g_thenExit ?_ | refine g_exitHere ?_ | refine g_exitOn rfl ?_ | refine g_ret ?_ | refine g_thenRet ?_ | refine g_blockRet ?_ | refine g_passS rfl ?_ | refine g_pass0 ?_ | refine g_passU rfl ?_ | refine g_passUS rfl ?_ | refine g_storeV ?_ | refine g_build1 rfl rfl fun _ _ => ?_ | refine g_buildN rfl rfl fun _ _ => ?_ | refine g_make rfl (by omega) (by omega) fun _ _ => ?_)
  exact g_ret1 rfl fun w hw => ⟨(za, zc), rfl, hw.sel [1] (by decide), trivial⟩
end Go.Proofs.YtebajiafdkokjaaDoor
