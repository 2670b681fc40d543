/- Texts joined: Visit Held SureB DrawE ReachG SureC HangA HangB HangC HangLaw OrderA RangeB BackB. -/
import Derived.Laws.Cover3
import Derived.OrdersHeld
import Derived.Test.YtebajiafdkokjaaDoorPlC
/- slices.Backward, graph.Post and its closure: what each does. -/
namespace Go.Proofs.YtebajiafdkokjaaDoor
open Go Go.RowKit
attribute [local irreducible] wpListIn Code.wpIn Exit.then Exit.inBlock bodyPost wpQuiet wpAnyIn bodyPostM
set_option maxHeartbeats 4000000

theorem backward_c (v : Value) (hv : ∃ a n c, v = .slice a n c) (w0 : World) : Ret Tryd.prog 83 [v] w0 fun u w' => ∃ p : Nat, u = .func (.func 117) #[] #[.pointer (some ⟨p, 0, none⟩)] ∧ Wd NoS w0 [Ent.box p [v] 27] w' ∧ True := by
  obtain ⟨a, n, c, rfl⟩ := hv
  refine ret_enter Tryd.func83 rfl Tryd.ntmps83 rfl (Wd.nil NoS w0) ?_
  repeat (first | refine g_op rfl ?_ | refine g_then ?_ | refine g_nil ?_ | refine g_region ?_ | refine g_seq ?_ | refine g_opS rfl ?_ | refine g_box rfl fun _ _ => ?_ | refine g_ret ?_)
  exact g_ret1 rfl fun w hw => ⟨_, rfl, hw, trivial⟩
theorem backStops {α : Type} {enc : α → Int × Int} {K : Nat → Prop} {w0 w : World} {Bs n c : Nat} {a : Option Addr} {zs : List Int} {xs : List α} (hsl : SlAt w0 (.slice a n c) 1 zs IntV) (hlen : zs.length ≤ 100000) (hK : ∀ b, b < w0.heap.size → K b) (hKB : K Bs) (hw : Chg NoS w0 w)
    (hB : w.cell? ⟨Bs, 0, none⟩ = some (.slice a n c)) (hxs : xs.map enc = downTo zs zs.length) :
    SeqStopsK (FW none) 4 Tryd.prog 117 #[.pointer (some ⟨Bs, 0, none⟩)] (fun x => #[.int .i64 (enc x).1, .int .i64 (enc x).2]) (KeepB K) (fun ys => ys = xs) (fun pre => pre <+: xs) xs.length w := by
  intro l J Jx W hW _ _ hY h0
  have hxl : xs.length = zs.length := by have := congrArg List.length hxs; rwa [List.length_map, downTo_length] at this
  obtain ⟨a', n', c', b, o, hv, hn, _, _, _, ha, hel⟩ := hsl
  simp only [Value.slice.injEq] at hv
  obtain ⟨rfl, rfl, rfl⟩ := hv
  subst hn
  have hcell : ∀ j, j < zs.length → w0.cell? ⟨b, o + j, none⟩ = some (.int .i64 (zs[j]?.getD 0)) := fun j hj => by
    obtain ⟨cs, hc, rfl, _⟩ := hel j _ (List.getElem?_eq_getElem hj)
    have := hc 0 _ rfl
    simpa [hj] using this
  refine backInt1_in 4 (by omega) enc l Bs b o c K zs xs hxs hlen (fun hne => hK b ?_) hKB J Jx a (fun hne => ha hne) (fun pre x W1 hJ hl => hY pre x W1 hJ (by omega)) W ((hW.cell (p := ⟨Bs, 0, none⟩) (World.block_lt_of_cell? w _ hB)).trans hB) (fun j hj => ?_) h0
  · exact World.block_lt_of_cell? w0 _ (hcell 0 (List.length_pos_iff.2 hne))
  · have h1 := cell_keep hw (hcell j hj)
    exact (hW.cell (World.block_lt_of_cell? w _ h1)).trans h1
/-- rounds over such pairs -/
abbrev BackA (n : Nat) : Type := { p : Int × Nat // p.2 < n }
def BackA.enc {n : Nat} (x : BackA n) : Int × Int := (x.1.1, (x.1.2 : Int))
theorem backA_ex {n : Nat} : ∀ l : List (Int × Int), (∀ p ∈ l, 0 ≤ p.2 ∧ p.2 < n) → ∃ xs : List (BackA n), xs.map BackA.enc = l
  | [], _ => ⟨[], rfl⟩
  | p :: l, h => by
    obtain ⟨xs, hxs⟩ := backA_ex l fun q hq => h q (List.mem_cons_of_mem _ hq)
    have hp := h p (by simp)
    refine ⟨⟨(p.1, p.2.toNat), by simp only; omega⟩ :: xs, ?_⟩
    rw [List.map_cons, hxs]
    simp only [BackA.enc]
    congr 1
    rw [show ((p.2.toNat : Nat) : Int) = p.2 by omega]
theorem downTo_snd (zs : List Int) : (downTo zs zs.length).map (·.2) = zs.reverse := by
  apply List.ext_getElem?
  intro i
  rw [downTo, List.map_map, List.getElem?_map]
  by_cases hi : i < zs.length
  · rw [List.getElem?_range hi, List.getElem?_reverse hi]
    have : zs.length - 1 - i < zs.length := by omega
    simp [this]
  · rw [List.getElem?_eq_none (by rw [List.length_range]; omega), List.getElem?_eq_none (by rw [List.length_reverse]; omega)]; rfl
theorem downTo_mem {zs : List Int} {p : Int × Int} (h : p ∈ downTo zs zs.length) : p.2 ∈ zs := by
  have : p.2 ∈ (downTo zs zs.length).map (·.2) := List.mem_map.2 ⟨p, h, rfl⟩
  rw [downTo_snd] at this
  simpa using this

/-- what 'visit' is handed: what has been seen and left -/
def visE (n : Nat) (pl sb : Nat) (s : (List Bool × List Nat) × (Option Addr × Nat)) : List Ent :=
  [Ent.box pl [.slice s.2.1 s.1.2.length s.2.2] 27, Ent.vec s.2.1 s.1.2.length s.2.2 3 1 (s.1.2.map intN), Ent.vec (some ⟨sb, 0, none⟩) n n 4 1 (s.1.1.map .bool)]
def visF (nm pa re : Value) (ba : Option Addr) (n bc ps pf pv pl sb : Nat) : List Ent := [Ent.box ps [.slice (some ⟨sb, 0, none⟩) n n] 38, Ent.box pf [nm, pa, re, .slice ba n bc] 35, Ent.box pv [.func (.func 82) #[] #[.pointer (some ⟨ps, 0, none⟩), .pointer (some ⟨pf, 0, none⟩), .pointer (some ⟨pv, 0, none⟩), .pointer (some ⟨pl, 0, none⟩)]] 118]
theorem visit_c (nm pa re : Value) (bl : List LBlock) (ba : Option Addr) (n bc ps pf pv pl sb : Nat) (wz : World) (hbs : SlAt wz (.slice ba n bc) 6 bl BlockV) (hlen : bl.length ≤ 100) (hok : GoodB bl) :
    ∀ (f b : Nat) (s : (List Bool × List Nat) × (Option Addr × Nat)), s.1.1.length = bl.length → s.1.1[b]? = some false → unseen s.1.1 ≤ f → s.1.2.length + unseen s.1.1 ≤ n → ∀ w, Wd NoS wz (visE n pl sb s ++ visF nm pa re ba n bc ps pf pv pl sb) w →
    Ret Tryd.prog 82 [.int .i64 b, .pointer (some ⟨ps, 0, none⟩), .pointer (some ⟨pf, 0, none⟩), .pointer (some ⟨pv, 0, none⟩), .pointer (some ⟨pl, 0, none⟩)] w fun u w' => ∃ z : Option Addr × Nat, u = .tuple #[] ∧ Wd (fps (visE n pl sb s ++ visF nm pa re ba n bc ps pf pv pl sb)) w (visE n pl sb (dfs bl f b s.1, z) ++ visF nm pa re ba n bc ps pf pv pl sb) w' ∧ True := by
  have hbs0 := hbs
  obtain ⟨ba, n, bc, bb, bo', hv, hn, hnc, hnb, hbc, hba, hel⟩ := hbs
  simp only [Value.slice.injEq] at hv
  obtain ⟨rfl, rfl, rfl⟩ := hv
  intro f
  induction f with
  | zero => intro b s _ hb hu; have := unseen_pos hb; omega
  | succ f ih =>
    rintro b ⟨⟨seen, left⟩, la, lc⟩ hl hb hu hle w hw
    simp only at hl hb hu hle
    have hus := unseen_set hb
    have hbn : b < n := by have := (List.getElem?_eq_some_iff.1 hb).1; omega
    obtain ⟨B, hB⟩ := get_lt hn hbn
    have had : AddrIs ba bb bo' := ⟨hba (ne_of_get hB)⟩
    have hli : LtIs b n := ⟨hbn⟩
    obtain ⟨cs, hcs, pv', lv, tv, rfl, _, _, hphis, hlist, ht⟩ := hel b B hB
    have ht0 := ht
    obtain ⟨ta, tn, tc, tb, to', rfl, htn, htnc, htnb, htc, hta, htel⟩ := ht
    have hci : CellsIs wz bb (bo' + b * 6) _ := ⟨hcs⟩
    have hBok := hok B (List.mem_of_getElem? hB)
    have hea : ElAt seen b false := ⟨hb⟩
    have hz := hw.chg
    refine ret_enterM (w0 := wz) (S := NoS) Tryd.func82 rfl Tryd.ntmps82 rfl hw.withRest ?_
    generalize hrest : Ent.rest (restOf wz.heap.size w (visE n pl sb ((seen, left), la, lc) ++ visF nm pa re ba n bc ps pf pv pl sb)) w = RS
    simp only [visE, visF, List.cons_append, List.nil_append]
    repeat (first | refine g_op rfl ?_ | refine g_then ?_ | refine g_nil ?_ | refine g_region ?_ | refine g_seq ?_ | refine g_storeV ?_)
    refine g_callE (val := fun p : Nat => .func (.func 117) #[] #[.pointer (some ⟨p, 0, none⟩)]) (E := fun p => [Ent.box p [.slice ta tn tc] 27]) (φ := fun _ => True) rfl (fun w hw => backward_c _ ⟨_, _, _, rfl⟩ w) fun Bs _ => ?_
    simp only [List.cons_append, List.nil_append]
    repeat (first | refine g_then ?_ | refine g_nil ?_ | refine g_block ?_)
    obtain ⟨xs, hxs⟩ := backA_ex (n := n) (downTo B.to B.to.length) fun p hp => by have := hBok.2 p.2 (downTo_mem hp); omega
    refine g_fix (L' := [(18, .func (.func 117) #[] #[.pointer (some ⟨Bs, 0, none⟩)]), (0, .int .i64 b), (1, .pointer (some ⟨ps, 0, none⟩)), (2, .pointer (some ⟨pf, 0, none⟩)), (3, .pointer (some ⟨pv, 0, none⟩)), (4, .pointer (some ⟨pl, 0, none⟩))]) (by repeat (first | exact trivial | refine ⟨rfl, ?_⟩)) (List.Sublist.refl _) ?_
    refine g_sel [2, 3, 4, 5, 6, 7, 0, 1] (by decide) ?_
    have hvt : visE n pl sb ((seen.set b true, left), (la, lc)) = [Ent.box pl [.slice la left.length lc] 27, Ent.vec la left.length lc 3 1 (left.map intN), Ent.vec (some ⟨sb, 0, none⟩) n n 4 1 ((seen.set b true).map .bool)] := rfl
    refine g_range (α := BackA n) (gf := 117) (lb := [.pointer (some ⟨Bs, 0, none⟩)]) [Ent.box ps [.slice (some ⟨sb, 0, none⟩) n n] 38, Ent.box pf [nm, pa, re, .slice ba n bc] 35, Ent.box pv [.func (.func 82) #[] #[.pointer (some ⟨ps, 0, none⟩), .pointer (some ⟨pf, 0, none⟩), .pointer (some ⟨pv, 0, none⟩), .pointer (some ⟨pl, 0, none⟩)]] 118, Ent.box Bs [.slice ta tn tc] 27, RS] (visE n pl sb) (fun s => ⟨by intro e he; simp only [visE, List.mem_cons, List.not_mem_nil, or_false] at he; rcases he with rfl | rfl | rfl <;> infer_instance⟩) xs (encs := fun x => #[.int .i64 (BackA.enc x).1, .int .i64 (BackA.enc x).2]) (Bs := Bs) (bcs := [.slice ta tn tc]) (bt := 27) (by simp)
      (fun w hw => backStops (enc := BackA.enc) ht0 (by omega) (fun b hb => .inl ⟨hb, fun h => h⟩) (.inr rfl) hw.chg (hw.boxCells Bs 0 _ rfl) hxs)
      (fun pre s => s.1 = (pre.map fun x => x.1.2).foldl (vstep bl f) (seen.set b true, left)) ((seen.set b true, left), (la, lc)) rfl (List.Sublist.refl _) (fun _ => rfl)
      (fun x => [(20, .int .i64 (x.1.2 : Int)), (19, .int .i64 x.1.1), (0, .int .i64 b), (1, .pointer (some ⟨ps, 0, none⟩)), (2, .pointer (some ⟨pf, 0, none⟩)), (3, .pointer (some ⟨pv, 0, none⟩)), (4, .pointer (some ⟨pl, 0, none⟩))]) (fun x => [(7, .int .i64 (x.1.2 : Int)), (0, .int .i64 b), (1, .pointer (some ⟨ps, 0, none⟩)), (2, .pointer (some ⟨pf, 0, none⟩)), (3, .pointer (some ⟨pv, 0, none⟩)), (4, .pointer (some ⟨pl, 0, none⟩))]) (fun x a h => ?_) (fun l x s R => ?_) (fun l pre x s R hI hlt => ?_) fun D s hD hI => ?_
    · have h2 := ((h.to (L' := [(0, .int .i64 b), (1, .pointer (some ⟨ps, 0, none⟩)), (2, .pointer (some ⟨pf, 0, none⟩)), (3, .pointer (some ⟨pv, 0, none⟩)), (4, .pointer (some ⟨pl, 0, none⟩))]) (by repeat (first | exact trivial | refine ⟨rfl, ?_⟩))).putOk (d := 19) rfl (.int .i64 x.1.1)).putOk (d := 20) rfl (.int .i64 (x.1.2 : Int))
      have e : (#[19, 20].zip #[Value.int .i64 (BackA.enc x).1, Value.int .i64 (BackA.enc x).2]).foldl (fun (t : Array Value) (q : Tmp × Value) => t.setIfInBounds q.1 q.2) a.tmps = (a.tmps.setIfInBounds 19 (.int .i64 x.1.1)).setIfInBounds 20 (.int .i64 (x.1.2 : Int)) := by simp [BackA.enc]
      refine ⟨Eq.trans (congrArg Array.size e) h2.size, rfl, fun p hp => ?_⟩
      exact Eq.trans (congrArg (fun t : Array Value => t[p.1]?) e) (h2.slot p hp)
    · repeat (first | refine g_op rfl ?_ | refine g_then ?_ | refine g_nil ?_ | refine g_region ?_)
      exact g_done (by repeat (first | exact trivial | refine ⟨rfl, ?_⟩)) (List.Sublist.refl _)
    · obtain ⟨⟨i0, t⟩, htn'⟩ := x
      obtain ⟨⟨sn, lf⟩, la', lc'⟩ := s
      simp only at hI htn'
      have hg := vsteps_grows bl f (seen.set b true, left) (pre.map fun x => x.1.2)
      rw [← hI] at hg
      have hsl : sn.length = n := by have := hg.1; simp at this; omega
      have hg3 := hg.2.2.1
      have hg4 := hg.2.2.2
      simp only at hg3 hg4
      obtain ⟨sv, hsv⟩ : ∃ sv, sn[t]? = some sv := ⟨_, List.getElem?_eq_getElem (by omega)⟩
      have hes : ElAt sn t sv := ⟨hsv⟩
      have hlt2 : LtIs t n := ⟨htn'⟩
      have hstep : ((pre ++ [(⟨(i0, t), htn'⟩ : BackA n)]).map fun x : BackA n => x.1.2).foldl (vstep bl f) (seen.set b true, left) = vstep bl f (sn, lf) t := by
        rw [List.map_append, List.foldl_append, ← hI]; rfl
      rw [hstep]
      simp only [visE, List.cons_append, List.nil_append]
      cases sv
      · have hv : vstep bl f (sn, lf) t = dfs bl f t (sn, lf) := by unfold vstep; simp [hsv]
        rw [hv]
        repeat (first | refine g_op rfl ?_ | refine g_then ?_ | refine g_nil ?_ | refine g_region ?_ | refine g_seq ?_ | refine g_block ?_ | refine g_condT ?_)
        refine g_sel [1, 2, 3, 4, 5, 6, 0, 7, 8] (by decide) ?_
        refine g_eqH (H1 := (visE n pl sb ((sn, lf), la', lc') ++ visF nm pa re ba n bc ps pf pv pl sb) ++ [R, Ent.box Bs [.slice ta tn tc] 27, RS]) rfl ?_
        refine g_callFS (val := fun _ : Option Addr × Nat => .tuple #[]) (E := fun z => visE n pl sb (dfs bl f t (sn, lf), z) ++ visF nm pa re ba n bc ps pf pv pl sb) (φ := fun _ => True) (us := []) (vs := [.int .i64 (t : Int)]) (xs := [.pointer (some ⟨ps, 0, none⟩), .pointer (some ⟨pf, 0, none⟩), .pointer (some ⟨pv, 0, none⟩), .pointer (some ⟨pl, 0, none⟩)]) rfl
          (fun w hw => ih t ((sn, lf), la', lc') (by simp only; omega) hsv (by simp only; omega) (by simp only; omega) w (hw.sub (List.sublist_append_left _ _))) fun z _ => ?_
        simp only [visE, visF, List.cons_append, List.nil_append]
        repeat (first | refine g_then ?_ | refine g_nil ?_ | refine g_inBlock ?_)
        refine g_sel [6, 0, 1, 2, 3, 4, 5, 7, 8] (by decide) ?_
        exact g_rnd (dfs bl f t (sn, lf), z) rfl (List.Sublist.refl _)
      · have hv : vstep bl f (sn, lf) t = (sn, lf) := by unfold vstep; simp [hsv]
        rw [hv]
        repeat (first | refine g_op rfl ?_ | refine g_then ?_ | refine g_nil ?_ | refine g_region ?_ | refine g_seq ?_ | refine g_inBlock ?_ | refine g_block ?_ | refine g_skip ?_ | refine g_condF ?_)
        exact g_rnd ((sn, lf), la', lc') rfl (List.Sublist.refl _)
    · obtain ⟨⟨sn, lf⟩, la', lc'⟩ := s
      simp only at hI
      have hxm : (xs.map fun x => x.1.2) = (toOf bl b).reverse.map Int.toNat := by
        have h1 := congrArg (List.map (fun p : Int × Int => p.2.toNat)) hxs
        rw [List.map_map] at h1
        rw [show (xs.map fun x => x.1.2) = xs.map ((fun p : Int × Int => p.2.toNat) ∘ BackA.enc) from List.map_congr_left fun x _ => by simp [BackA.enc], h1, toOf_get hB, ← downTo_snd, List.map_map]
        rfl
      rw [hxm] at hI
      have hd : dfs bl (f + 1) b (seen, left) = (sn, lf ++ [b]) := by rw [dfs_succ]; simp only; rw [← hI]
      have hg := vsteps_grows bl f (seen.set b true, left) ((toOf bl b).reverse.map Int.toNat)
      rw [← hI] at hg
      have hg4 := hg.2.2.2
      simp only at hg4
      simp only [visE, List.cons_append, List.nil_append]
      repeat (first | refine g_op rfl ?_ | refine g_then ?_ | refine g_region ?_ | refine g_inBlock ?_ | refine g_build1 rfl rfl fun _ _ => ?_)
      refine g_append rfl rfl (by omega) (by omega) fun a' c' => ?_
      rw [show lf.map intN ++ [.int .i64 (b : Int)] = (lf ++ [b]).map intN by simp [intN], show lf.length + 1 = (lf ++ [b]).length by simp]
      repeat (first | refine g_nil ?_ | refine g_store ?_)
      refine g_sel [1, 9, 2, 3, 4, 5, 6, 7] (by decide) ?_
      refine g_endM0 rfl hD fun w' hw' => ⟨(a', c'), rfl, ?_, trivial⟩
      simp only
      rw [hd]
      rw [← hrest] at hw'
      exact wd_rest hz hw'
theorem graphPost_c (nm pa re : Value) (bl : List LBlock) (bs : Value) (w0 : World) (hbs : SlAt w0 bs 6 bl BlockV) (hlen : bl.length ≤ 100) (hok : GoodB bl) (hpos : 0 < bl.length) :
    Ret Tryd.prog 47 [.agg #[nm, pa, re, bs]] w0 fun u w' => ∃ x : Option Addr × Nat, u = .slice x.1 (postL bl).length x.2 ∧ Wd NoS w0 [Ent.vec x.1 (postL bl).length x.2 3 1 ((postL bl).map intN)] w' ∧ True := by
  have hbs0 := hbs
  obtain ⟨ba, n, bc, bb, bo', rfl, hn, hnc, hnb, hbc, hba, hel⟩ := hbs
  refine ret_enter Tryd.func47 rfl Tryd.ntmps47 rfl (Wd.nil NoS w0) ?_
  repeat (first | refine g_op rfl ?_ | refine g_then ?_ | refine g_nil ?_ | refine g_region ?_ | refine g_seq ?_ | refine g_store ?_ | refine g_box rfl fun _ _ => ?_ | refine g_alloc rfl fun _ _ => ?_ | refine g_make rfl (by omega) (by omega) fun _ _ => ?_)
  rename_i pf _ pl _ sb _ ps _ pv _
  rw [show List.replicate n (Value.bool false) = (List.replicate n false).map Value.bool by simp]
  refine g_nilVec 3 1 ?_
  refine g_sel [4, 0, 3, 2, 5, 1] (by decide) ?_
  refine g_eqH (H1 := (visE n pl sb ((List.replicate n false, []), (none, 0)) ++ visF nm pa re ba n bc ps pf pv pl sb) ++ []) rfl ?_
  refine g_callFS (val := fun _ : Option Addr × Nat => .tuple #[]) (E := fun z => visE n pl sb (dfs bl n 0 (List.replicate n false, []), z) ++ visF nm pa re ba n bc ps pf pv pl sb) (φ := fun _ => True) (us := []) (vs := [.int .i64 ((0 : Nat) : Int)]) (xs := [.pointer (some ⟨ps, 0, none⟩), .pointer (some ⟨pf, 0, none⟩), .pointer (some ⟨pv, 0, none⟩), .pointer (some ⟨pl, 0, none⟩)]) rfl
    (fun w hw => visit_c nm pa re bl ba n bc ps pf pv pl sb w0 hbs0 hlen hok n 0 ((List.replicate n false, []), (none, 0)) (by simpa using hn) (by simp only; rw [List.getElem?_replicate, if_pos (by omega)]) (by simp only [unseen_all]; exact Nat.le_refl _) (by simp only [unseen_all]; simp) w (hw.sub (List.sublist_append_left _ _))) fun z _ => ?_
  obtain ⟨za, zc⟩ := z
  have hp : (dfs bl n 0 (List.replicate n false, [])).2 = postL bl := by unfold postL; rw [← hn]
  generalize dfs bl n 0 (List.replicate n false, []) = d at hp
  obtain ⟨d1, d2⟩ := d
  simp only at hp
  subst hp
  simp only [visE, visF, List.cons_append, List.nil_append]
  repeat (first | refine g_op rfl ?_ | refine g_then ?_ | refine g_nil ?_ | refine g_region ?_ | refine g_seq ?_ | refine g_opS rfl ?_ | refine g_ret ?_)
  exact g_ret1 rfl fun w hw => ⟨(za, zc), rfl, hw.sel [1] (by decide), trivial⟩
end Go.Proofs.YtebajiafdkokjaaDoor

/- A region that draws its order, reads, and ends in one store: what is read lies in pieces that the store leaves alone. One walk serves every order. -/
namespace Go.Proofs.YtebajiafdkokjaaDoor
open Go Go.RowKit

section
variable {P : Program} {N : Nat} {ds : List Deferred} {S : Nat → Prop} {w0 : World} {L L' : List (Nat × Value)} {H H' Hr : List Ent} {Q : Exit → Act → World → Prop} {x y : Operand} {M : Act → World → Prop} {l : List Oper} {fuel : Nat} {listed : Array Bool}

theorem g_drawH {id n : Nat} [hl : LenO l n] (Hr : List Ent) (hm : P.follows .mixedOrders = true) (_hH : Hr.Sublist H)
    (h : G N ds S w0 L H (wpAnyH P .any l.toArray (OnlyN (Q .normal)) (Wd S w0 Hr) n (Array.replicate n false))) : G N ds S w0 L H (Code.wpIn (FW none) 0 P (Code.region id l.toArray true) Q) := fun a w hS => by
  refine wpIn_wide.2 (wp_region_any hm ?_)
  have h1 := wpAny_of_held _ _ _ _ (h a { w with drawn := w.drawn + 1 } ⟨hS.fr, hS.wd.same rfl rfl rfl rfl⟩)
  rw [← hl.eq] at h1
  have key : ∀ (fuel : Nat) (listed : Array Bool) (a : Act) (w : World), wpAny P .any l.toArray (OnlyN (Q .normal)) fuel listed a w → wpAny P .any l.toArray Q fuel listed a w := by
    intro fuel
    induction fuel with
    | zero => exact fun listed a w h => ⟨h.1, h.2⟩
    | succ fuel ih =>
      intro listed a w h
      refine ⟨fun e => h.1 e, fun i hi => ?_⟩
      have h2 := h.2 i hi
      unfold wpOp at h2 ⊢
      split
      · rename_i ho
        simp only [ho] at h2
        exact ih _ _ _ h2
      · rename_i o ho
        simp only [ho] at h2
        split
        · rename_i hw
          rw [if_pos hw] at h2
          rcases h2 with h3 | ⟨_, a', w', h3⟩
          · left
            unfold Oper.wp at h3 ⊢
            revert h3
            generalize (execOp a.eval o).run P w = r
            intro h3
            cases r with
            | ok nx w1 =>
              cases nx with
              | value v => exact ih _ _ _ h3
              | skip => exact ih _ _ _ h3
              | defer d => exact ih _ _ _ h3
              | enter f args =>
                refine Calls.mono h3 fun e w2 hh => ?_
                cases e with
                | returned v => exact ih _ _ _ hh
                | panicked c => exact (hh : False).elim
                | outgrown => exact (Exists.elim hh fun _ h => Exists.elim h fun _ h => (h : False).elim)
              | row r args => exact Rows.mono h3 fun v w2 hh => ih _ _ _ hh
              | _ => exact h3
            | halt x w1 => cases x <;> exact (h3 : False).elim
          · exact (h3 : False).elim
        · rename_i hw
          rw [if_neg hw] at h2
          exact ih _ _ _ h2
  have := key _ _ _ _ h1
  simpa using this
theorem h_take {d ty : Nat} (i : Nat) {pos : String} {aft : Array Go.Edge} {op : Op} {v : Value} [ho : ListAt l i ⟨some d, op, ty, pos, aft, none⟩] [h : RunsC P N ds S w0 L Hr op v] (hd : okPut d N L = true)
    (hr : ((Region.noSelect l.toArray && Region.free .any l.toArray listed i) && (Region.ready .any l.toArray listed).contains i) = true) (hH : Hr.Sublist H)
    (k : G N ds S w0 ((d, v) :: L) H (wpAnyH P .any l.toArray (OnlyN M) (Wd S w0 Hr) fuel (listed.setIfInBounds i true))) : G N ds S w0 L H (wpAnyH P .any l.toArray (OnlyN M) (Wd S w0 Hr) (fuel + 1) listed) := fun a w hS => by
  simp only [Bool.and_eq_true] at hr
  exact wpAnyH_take (i := i) (oi := ⟨some d, op, ty, pos, aft, none⟩) (v := v) (by simpa using ho.at') hr.1.1 hr.1.2 hr.2 (fun c a w hh => hh) (.inl ⟨rfl, fun w hw => h.run _ _ _ _ _ a w hS.fr hw⟩) (hS.wd.sub hH) (k _ _ ⟨hS.fr.putOk hd v, hS.wd⟩)
theorem h_takeG {d ty j t : Nat} (i : Nat) {want : Bool} {pos : String} {aft : Array Go.Edge} {op : Op} {v : Value} [ho : ListAt l i ⟨some d, op, ty, pos, aft, some (j, want)⟩] [hj : DstOf l.toArray j t] [hb : SlotIs L t (.bool want)] [h : RunsC P N ds S w0 L Hr op v] (hd : okPut d N L = true)
    (hr : ((Region.noSelect l.toArray && Region.free .any l.toArray listed i) && (Region.ready .any l.toArray listed).contains i) = true) (hH : Hr.Sublist H)
    (k : G N ds S w0 ((d, v) :: L) H (wpAnyH P .any l.toArray (OnlyN M) (Wd S w0 Hr) fuel (listed.setIfInBounds i true))) : G N ds S w0 L H (wpAnyH P .any l.toArray (OnlyN M) (Wd S w0 Hr) (fuel + 1) listed) := fun a w hS => by
  simp only [Bool.and_eq_true] at hr
  refine wpAnyH_take (i := i) (oi := ⟨some d, op, ty, pos, aft, some (j, want)⟩) (v := v) (by simpa using ho.at') hr.1.1 hr.1.2 hr.2 (fun c a w hh => hh) (.inl ⟨?_, fun w hw => h.run _ _ _ _ _ a w hS.fr hw⟩) (hS.wd.sub hH) (k _ _ ⟨hS.fr.putOk hd v, hS.wd⟩)
  simp only [Region.wanted, hS.fr.yield (ops := l.toArray) (j := j) (b := want)]
  simp
theorem h_takeP {d ty j t : Nat} (i : Nat) {want b : Bool} {pos : String} {aft : Array Go.Edge} {op : Op} [ho : ListAt l i ⟨some d, op, ty, pos, aft, some (j, want)⟩] [hj : DstOf l.toArray j t] [hn : NotB want b] [hb : SlotIs L t (.bool b)] (hd : okPut d N L = true)
    (hr : ((Region.noSelect l.toArray && Region.free .any l.toArray listed i) && (Region.ready .any l.toArray listed).contains i) = true) (hH : Hr.Sublist H)
    (k : G N ds S w0 ((d, undef) :: L) H (wpAnyH P .any l.toArray (OnlyN M) (Wd S w0 Hr) fuel (listed.setIfInBounds i true))) : G N ds S w0 L H (wpAnyH P .any l.toArray (OnlyN M) (Wd S w0 Hr) (fuel + 1) listed) := fun a w hS => by
  simp only [Bool.and_eq_true] at hr
  refine wpAnyH_take (i := i) (oi := ⟨some d, op, ty, pos, aft, some (j, want)⟩) (v := undef) (by simpa using ho.at') hr.1.1 hr.1.2 hr.2 (fun c a w hh => hh) (.inr ⟨?_, rfl⟩) (hS.wd.sub hH) (k _ _ ⟨hS.fr.putOk hd undef, hS.wd⟩)
  simp only [Region.wanted, hS.fr.yield (ops := l.toArray) (j := j) (b := b)]
  exact hn.ne
/-- the one operation that is left: a store into a slice of the call's own -/
theorem h_storeV {ty T b off k o j n c e s : Nat} (i : Nat) [h : OneCell P T] {xs xs' : List Value} {v : Value} {pos : String} {aft : Array Go.Edge} [ho : ListAt l i ⟨none, .store T x y, ty, pos, aft, none⟩]
    [hx : Ev L x (.pointer (some ⟨b, off, none⟩))] [hy : Ev L y v] [h1 : OneV v] [hb : OwnAt H b off k o j n c e s xs] [hu : XSet xs j v xs'] [hH : SetAt H k (Ent.vec (some ⟨b, o, none⟩) n c e s xs') H']
    (hr : decide (Region.ready .any l.toArray listed = [i]) = true) (hr2 : (Region.ready .any l.toArray (listed.setIfInBounds i true)).isEmpty = true) (hHr : Hr.Sublist H')
    (kk : G N ds S w0 L H' M) : G N ds S w0 L H (wpAnyH P .any l.toArray (OnlyN M) (Wd S w0 Hr) (fuel + 1) listed) := by
  intro a w hS
  obtain ⟨_, _, _, pre, sp, hpre, _, hbx⟩ := hS.wd.vecAt hb.at'
  have e1 := hb.eq
  subst e1
  have hlt := hu.lt
  have hc := hS.wd.vecCell hb.at' (List.getElem?_eq_getElem hlt)
  have hrun := run_storeOne (P := P) (T := T) h1.one hc (by simp [World.frozen?, hbx])
  have hw' := hS.wd.setVec v hb.at' hlt
  rw [hu.eq, hH.set'] at hw'
  refine wpAnyH_all (of_decide_eq_true hr) (by simp) fun i' hi' => ?_
  simp only [List.mem_singleton] at hi'
  subst hi'
  unfold wpOp
  rw [show l.toArray[i']? = some ⟨none, .store T x y, ty, pos, aft, none⟩ by simpa using ho.at']
  simp only
  have hwt : Region.wanted (⟨none, .store T x y, ty, pos, aft, none⟩ : Oper) (yielded l.toArray a.tmps) = true := rfl
  rw [if_pos hwt]
  left
  unfold Oper.wp
  rw [show (execOp a.eval ⟨none, .store T x y, ty, pos, aft, none⟩).run P w = .ok .skip (w.setCell ⟨b, o + j, none⟩ v) by simp [execOp, hx.eq _ _ _ hS.fr, hy.eq _ _ _ hS.fr, hrun]]
  refine ⟨hw'.sub hHr, wpAnyH_done (List.isEmpty_iff.1 hr2) ?_ _⟩
  exact kk _ _ ⟨hS.fr, hw'⟩
end
end Go.Proofs.YtebajiafdkokjaaDoor

/- turneryref3.Ends, dom.sure, turneryref3.SureTable: what each returns. -/
namespace Go.Proofs.YtebajiafdkokjaaDoor
open Go Go.RowKit
attribute [local irreducible] wpListIn Code.wpIn Exit.then Exit.inBlock bodyPost wpQuiet wpAnyIn
set_option maxHeartbeats 2000000

/-- a place that a packed piece tells of -/
class PackCell (F : World → Prop) (b off : Nat) (v : outParam Value) : Prop where
  eq : ∀ w, F w → w.cell? ⟨b, off, none⟩ = some v
instance (fp : Nat → Prop) (F : World → Prop) (b off : Nat) (v : Value) (H : List Ent) [h : PackCell F b off v] : OwnCell (⟨fp, F⟩ :: H) b off v := ⟨fun _ _ w hw => h.eq w (hw.get (k := 0) rfl)⟩

open Classical in
theorem refEnds_c (nm pa re : Value) (bl : List LBlock) (bs : Value) (b : Nat) (wo : Int) (w0 : World) (hbs : SlAt w0 bs 6 bl BlockV) (hlen : bl.length ≤ 100) (hok : GoodB bl) (hb : b < bl.length) :
    RetV Tryd.prog 87 [.agg #[nm, pa, re, bs], .int .i64 b, .int .i64 wo] w0 (.bool (decide (CanEnd bl wo b))) := by
  have hbs0 := hbs
  obtain ⟨ba, n, bc, bb, bo', rfl, hn, hnc, hnb, hbc, hba, hel⟩ := hbs
  refine ret_enter Tryd.func87 rfl Tryd.ntmps87 rfl (Wd.nil NoS w0) ?_
  repeat (first | refine g_op rfl ?_ | refine g_then ?_ | refine g_nil ?_ | refine g_region ?_ | refine g_seq ?_ | refine g_box rfl fun _ _ => ?_)
  rename_i p3 _
  refine g_callE (val := fun x : Option Addr × Nat × List Nat => .slice x.1 x.2.2.length x.2.1) (E := fun x => [Ent.vec x.1 x.2.2.length x.2.1 3 1 (x.2.2.map intN)]) (φ := fun x => FromR bl wo b x.2.2) rfl (fun w hw => refFrom_c _ _ _ bl _ b wo w (hbs0.keep keeps_block hw.chg) hlen hok hb) fun x hx => ?_
  obtain ⟨xa, xc, l⟩ := x
  simp only [List.cons_append, List.nil_append] at hx ⊢
  have hll : l.length ≤ bl.length := nodup_len _ _ hx.1 hx.2.1
  repeat (first | refine g_op rfl ?_ | refine g_then ?_ | refine g_nil ?_ | refine g_region ?_ | refine g_seq ?_ | refine g_block ?_)
  refine g_loop (fun (x : Nat × Option Addr) => x.1 ≤ l.length ∧ ∀ j y, j < x.1 → l[j]? = some y → kindOf bl y ≠ 1) (fun x => [(8, .int .i64 x.1), (7, .slice x.2 l.length xc), (3, .pointer (some ⟨p3, 0, none⟩))])
    (fun x => [Ent.vec x.2 l.length xc 3 1 (l.map intN), Ent.box p3 [nm, pa, re, .slice ba n bc] 35]) (fun x => l.length - x.1) (0, xa) ⟨Nat.zero_le _, by simp⟩ (g_done (by repeat (first | exact trivial | refine ⟨rfl, ?_⟩)) (List.Sublist.refl _)) fun x ⟨hi, hall⟩ => ?_
  obtain ⟨i, xa⟩ := x
  simp only at hi hall ⊢
  repeat (first | refine g_op rfl ?_ | refine g_then ?_ | refine g_nil ?_ | refine g_region ?_ | refine g_seq ?_)
  refine g_cond (fun h1 => ?_) (fun h1 => ?_)
  · have hil : i < l.length := by simpa using h1
    refine g_vec 0 rfl (by omega) fun rb ro hra => ?_
    subst hra
    obtain ⟨x0, hx0⟩ : ∃ x0, l[i]? = some x0 := ⟨_, List.getElem?_eq_getElem hil⟩
    have hx0n : x0 < n := by rw [hn]; exact hx.2.1 x0 (List.mem_of_getElem? hx0)
    obtain ⟨B, hB⟩ := get_lt hn hx0n
    have had : AddrIs ba bb bo' := ⟨hba (ne_of_get hB)⟩
    have hli : LtIs x0 n := ⟨hx0n⟩
    have hli1 : LtIs i l.length := ⟨hil⟩
    obtain ⟨cs, hcs, pv, lv, tv, rfl, _, _, _, _, _⟩ := hel x0 B hB
    have hci : CellsIs w0 bb (bo' + x0 * 6) _ := ⟨hcs⟩
    have hxat : XAt (l.map intN) (i * 1) (.int .i64 (x0 : Int)) := ⟨by simp [hx0, intN]⟩
    have hkind : kindOf bl x0 = B.kind := by simp [kindOf, hB]
    repeat (first | refine g_then ?_ | refine g_seq ?_ | refine g_block ?_ | refine g_skip ?_)
    refine g_draw mixed (by kernel_rfl) ?_
    repeat (first | refine q_op rfl ?_ | refine q_nil ?_)
    repeat (refine g_then ?_)
    refine g_cond (fun h2 => ?_) (fun h2 => ?_)
    · repeat (first | refine g_op rfl ?_ | refine g_then ?_ | refine g_nil ?_ | refine g_region ?_ | refine g_seq ?_ | refine g_ret ?_ | refine g_thenRet ?_ | refine g_blockRet ?_)
      refine g_retV rfl ?_
      have hm := (hx.2.2 x0).1 (List.mem_of_getElem? hx0)
      have hce : CanEnd bl wo b := ⟨hm.1, x0, hm.2, by rw [hkind]; simpa using h2⟩
      rw [decide_eq_true hce]
    · repeat (first | refine g_op rfl ?_ | refine g_then ?_ | refine g_nil ?_ | refine g_region ?_ | refine g_opS rfl ?_ | refine g_inBlock ?_ | refine g_skip ?_ | refine g_add rfl (by omega) (by omega) ?_)
      refine g_next (i + 1, some ⟨rb, ro, none⟩) ⟨hil, fun j y hj hy => ?_⟩ (by simp only; omega) (by repeat (first | exact trivial | refine ⟨rfl, ?_⟩)) (List.Sublist.refl _)
      by_cases hji : j = i
      · subst hji
        rw [hx0] at hy
        simp only [Option.some.injEq] at hy
        subst hy
        rw [hkind]; simpa using h2
      · exact hall j y (by simp only at hj; omega) hy
  · have hge : i = l.length := by have := h1; simp at this; omega
    repeat (first | refine g_op rfl ?_ | refine g_then ?_ | refine g_nil ?_ | refine g_region ?_ | refine g_seq ?_ | refine g_exit ?_ | refine g_thenExit ?_ | refine g_exitHere ?_ | refine g_ret ?_)
    refine g_retV rfl ?_
    rw [decide_eq_false]
    rintro ⟨hw, y, hr, hk⟩
    have hm := (hx.2.2 y).2 ⟨hw, hr⟩
    obtain ⟨j, hj⟩ := List.getElem?_of_mem hm
    exact hall j y (by have := (List.getElem?_eq_some_iff.1 hj).1; omega) hj hk

theorem row_sl {S : Nat → Prop} {w0 w : World} {rs : List Row} {E H : List Ent} (h : Wd S w0 (E ++ (rs.map entR ++ H)) w) {i : Nat} {r : Row} (hr : rs[i]? = some r) (hl : r.l.length ≤ 1000 ∧ ∀ x ∈ r.l, inI x) : SlAt w (valR r) 1 r.l IntV := by
  have hlt : i < rs.length := (List.getElem?_eq_some_iff.1 hr).1
  refine h.slAt (k := E.length + i) (a := r.a) (n := r.l.length) (c := r.c) (e := 3) (s := 1) (xs := r.l.map (.int .i64)) ?_ rfl (by omega) fun j y hy => ⟨[.int .i64 y], fun k v hk => ?_, rfl, hl.2 y (List.mem_of_getElem? hy)⟩
  · rw [List.getElem?_append_right (by omega), show E.length + i - E.length = i by omega, List.getElem?_append_left (by simpa using hlt), List.getElem?_map, hr]; rfl
  · match k, hk with
    | 0, hk => simpa [hy] using hk
/-- a table of rows of numbers, as one reads it -/
def tabF (bo : Nat) (rs : List Row) (w : World) : Prop := ∀ i r, rs[i]? = some r → w.cell? ⟨bo, i, none⟩ = some (valR r) ∧ SlAt w (valR r) 1 r.l IntV
theorem Wd.tab {S : Nat → Prop} {w0 w : World} {rs : List Row} {bo n e : Nat} (h : Wd S w0 (Ent.vec (some ⟨bo, 0, none⟩) n n e 1 (rs.map valR) :: rs.map entR) w) (hl : ∀ r ∈ rs, r.l.length ≤ 1000 ∧ ∀ x ∈ r.l, inI x) :
    Wd S w0 [⟨fps (Ent.vec (some ⟨bo, 0, none⟩) n n e 1 (rs.map valR) :: rs.map entR), tabF bo rs⟩] w := by
  have h1 : Wd S w0 ((Ent.vec (some ⟨bo, 0, none⟩) n n e 1 (rs.map valR) :: rs.map entR) ++ []) w := by rw [List.append_nil]; exact h
  refine h1.pack _ fun w2 hw2 i r hr => ⟨?_, ?_⟩
  · have := hw2.vecCell (k := 0) (j := i) (v := valR r) rfl (by rw [List.getElem?_map, hr]; rfl)
    simpa using this
  · exact row_sl (E := [Ent.vec (some ⟨bo, 0, none⟩) n n e 1 (rs.map valR)]) (H := []) (by rw [List.append_nil]; exact hw2) hr (hl r (List.mem_of_getElem? hr))
noncomputable def tableL (bl : List LBlock) : List (List Int) := (List.range bl.length).map fun b => (sureTo bl b bl.length).map fun x : Nat => (x : Int)
/-- rows as they stand: those below b are done, row b up to c -/
noncomputable def tableTo (bl : List LBlock) (b c i : Nat) : List Int := (sureTo bl i (if i < b then bl.length else if i = b then c else 0)).map fun x : Nat => (x : Int)
theorem sureTo_len (bl : List LBlock) (b n : Nat) : (sureTo bl b n).length ≤ n := by
  have := List.length_filter_le (fun c => @decide (Sure bl b c) (Classical.propDecidable _)) (List.range n)
  rw [List.length_range] at this
  exact this
theorem tableTo_bd (bl : List LBlock) (hlen : bl.length ≤ 100) (b c i : Nat) (hc : c ≤ 100) : (tableTo bl b c i).length ≤ 100 ∧ ∀ x ∈ tableTo bl b c i, inI x := by
  have h1 : (if i < b then bl.length else if i = b then c else 0) ≤ 100 := by split <;> (try split) <;> omega
  refine ⟨?_, fun x hx => ?_⟩
  · rw [tableTo, List.length_map]
    exact Nat.le_trans (sureTo_len _ _ _) h1
  · rw [tableTo] at hx
    obtain ⟨y, hy, rfl⟩ := List.mem_map.1 hx
    have := (List.mem_filter.1 hy).1
    have : y < _ := List.mem_range.1 this
    simp only [inI]; omega
theorem tableTo_succ {bl : List LBlock} {b c i : Nat} : tableTo bl b (c + 1) i = if i = b then tableTo bl b c b ++ (open Classical in if Sure bl b c then [(c : Int)] else []) else tableTo bl b c i := by
  classical
  by_cases hi : i = b
  · subst hi
    simp only [tableTo, Nat.lt_irrefl, if_false, if_true, sureTo]
    rw [filterTo_succ c, List.map_append]
    congr 1
    by_cases h : Sure bl i c <;> simp [h]
  · simp only [tableTo, if_neg hi]
theorem tableTo_next {bl : List LBlock} {b i : Nat} : tableTo bl (b + 1) 0 i = tableTo bl b bl.length i := by
  unfold tableTo
  congr 1
  by_cases h1 : i < b
  · simp [h1, show i < b + 1 by omega]
  · by_cases h2 : i = b
    · subst h2; simp
    · rw [if_neg (by omega), if_neg h1, if_neg h2]
      by_cases h3 : i = b + 1 <;> simp [h3]
theorem tableTo_none {bl : List LBlock} {b c i : Nat} (h : ¬ CanEnd bl (-1) b) : tableTo bl b c i = tableTo bl b 0 i := by
  classical
  unfold tableTo
  by_cases h1 : i = b
  · subst h1
    simp only [Nat.lt_irrefl, if_false, if_true]
    congr 1
    simp only [sureTo, List.range_zero, List.filter_nil]
    rw [List.filter_eq_nil_iff]
    intro x _
    simp [Sure, h]
  · simp only [if_neg h1]
theorem sureTable_c (nm pa re : Value) (bl : List LBlock) (bs : Value) (w0 : World) (hbs : SlAt w0 bs 6 bl BlockV) (hlen : bl.length ≤ 100) (hok : GoodB bl) :
    Ret Tryd.prog 53 [.agg #[nm, pa, re, bs]] w0 fun u w' => ∃ x : Nat × (Nat → Prop) × List Row, u = .slice (some ⟨x.1, 0, none⟩) bl.length bl.length ∧ Wd NoS w0 [⟨x.2.1, tabF x.1 x.2.2⟩] w' ∧ x.2.2.map (·.l) = tableL bl := by
  classical
  have hbs0 := hbs
  obtain ⟨ba, n, bc, bb, bo', rfl, hn, hnc, hnb, hbc, hba, hel⟩ := hbs
  rw [← hn] at hlen ⊢
  refine ret_enter Tryd.func53 rfl Tryd.ntmps53 rfl (Wd.nil NoS w0) ?_
  repeat (first | refine g_op rfl ?_ | refine g_then ?_ | refine g_nil ?_ | refine g_region ?_ | refine g_seq ?_ | refine g_box rfl fun _ _ => ?_ | refine g_block ?_ | refine g_make rfl (by omega) (by omega) fun _ _ => ?_)
  rename_i p1 _ bo _
  refine g_nilVecs 3 1 n ?_
  rw [show (List.replicate n (Value.slice none 0 0)) = (List.replicate n (⟨none, 0, []⟩ : Row)).map valR by simp [valR], show (List.replicate n (Ent.vec none 0 0 3 1 [])) = (List.replicate n (⟨none, 0, []⟩ : Row)).map entR by simp [entR]]
  refine g_permH (H1 := Ent.box p1 [nm, pa, re, .slice ba n bc] 35 :: Ent.vec (some ⟨bo, 0, none⟩) n n 27 1 ((List.replicate n (⟨none, 0, []⟩ : Row)).map valR) :: (List.replicate n (⟨none, 0, []⟩ : Row)).map entR) (List.Perm.swap _ _ _) ?_
  refine g_loop (fun (x : Nat × List Row) => x.1 ≤ n ∧ x.2.length = n ∧ ∀ i r, x.2[i]? = some r → r.l = tableTo bl x.1 0 i) (fun x => [(4, .int .i64 x.1), (3, .slice (some ⟨bo, 0, none⟩) n n), (1, .pointer (some ⟨p1, 0, none⟩))])
    (fun x => Ent.box p1 [nm, pa, re, .slice ba n bc] 35 :: Ent.vec (some ⟨bo, 0, none⟩) n n 27 1 (x.2.map valR) :: x.2.map entR) (fun x => n - x.1) (0, List.replicate n ⟨none, 0, []⟩)
    ⟨Nat.zero_le _, by simp, fun i r hr => ?_⟩ (g_done (by repeat (first | exact trivial | refine ⟨rfl, ?_⟩)) (List.Sublist.refl _)) fun x ⟨hi, hrl, hrows⟩ => ?_
  · simp only [List.getElem?_replicate] at hr
    split at hr
    · simp only [Option.some.injEq] at hr
      subst hr
      simp [tableTo, sureTo]
    · cases hr
  obtain ⟨b, rs⟩ := x
  simp only at hi hrl hrows ⊢
  repeat (first | refine g_op rfl ?_ | refine g_then ?_ | refine g_nil ?_ | refine g_region ?_ | refine g_seq ?_)
  refine g_cond (fun h1 => ?_) (fun h1 => ?_)
  · have hlt : b < n := by simpa using h1
    repeat (first | refine g_op rfl ?_ | refine g_then ?_ | refine g_region ?_ | refine g_seq ?_ | refine g_block ?_ | refine g_skip ?_)
    refine g_callV rfl (fun w hw => refEnds_c _ _ _ bl _ b (-1) w (hbs0.keep keeps_block hw.chg) (by omega) hok (by omega)) ?_
    generalize he1 : decide (CanEnd bl (-1) b) = e1
    cases e1
    · have hno : ¬ CanEnd bl (-1) b := by simpa using he1
      repeat (first | refine g_op rfl ?_ | refine g_then ?_ | refine g_nil ?_ | refine g_region ?_ | refine g_opS rfl ?_ | refine g_condT ?_ | refine g_add rfl (by omega) (by omega) ?_ | refine g_exit ?_ | refine g_thenExit ?_ | refine g_exitHere ?_)
      refine g_next (b + 1, rs) ⟨hlt, hrl, fun i r hr => ?_⟩ (by simp only; omega) (by repeat (first | exact trivial | refine ⟨rfl, ?_⟩)) (List.Sublist.refl _)
      rw [hrows i r hr, tableTo_next, tableTo_none (c := bl.length) hno]
    have hce : CanEnd bl (-1) b := by simpa using he1
    repeat (first | refine g_op rfl ?_ | refine g_then ?_ | refine g_nil ?_ | refine g_region ?_ | refine g_seq ?_ | refine g_block ?_ | refine g_skip ?_ | refine g_condF ?_)
    refine g_loop (fun (x : Nat × List Row) => x.1 ≤ n ∧ x.2.length = n ∧ ∀ i r, x.2[i]? = some r → r.l = tableTo bl b x.1 i) (fun x => [(5, .int .i64 x.1), (4, .int .i64 b), (3, .slice (some ⟨bo, 0, none⟩) n n), (1, .pointer (some ⟨p1, 0, none⟩))])
      (fun x => Ent.box p1 [nm, pa, re, .slice ba n bc] 35 :: Ent.vec (some ⟨bo, 0, none⟩) n n 27 1 (x.2.map valR) :: x.2.map entR) (fun x => n - x.1) (0, rs)
      ⟨Nat.zero_le _, hrl, hrows⟩ (g_done (by repeat (first | exact trivial | refine ⟨rfl, ?_⟩)) (List.Sublist.refl _)) fun x ⟨hj, hrl', hrows'⟩ => ?_
    obtain ⟨c, rs'⟩ := x
    simp only at hj hrl' hrows' ⊢
    repeat (first | refine g_op rfl ?_ | refine g_then ?_ | refine g_nil ?_ | refine g_region ?_ | refine g_seq ?_)
    refine g_cond (fun h2 => ?_) (fun h2 => ?_)
    · have hclt : c < n := by simpa using h2
      repeat (first | refine g_op rfl ?_ | refine g_then ?_ | refine g_region ?_ | refine g_seq ?_ | refine g_block ?_ | refine g_skip ?_)
      refine g_callV rfl (fun w hw => refEnds_c _ _ _ bl _ b c w (hbs0.keep keeps_block hw.chg) (by omega) hok (by omega)) ?_
      generalize he2 : decide (CanEnd bl c b) = e2
      cases e2
      · have hs : Sure bl b c := ⟨hce, by simpa using he2⟩
        obtain ⟨r, hr⟩ : ∃ r, rs'[b]? = some r := ⟨_, List.getElem?_eq_getElem (by omega)⟩
        have hrb := tableTo_bd bl (by omega) b c b (by omega)
        rw [← hrows' b r hr] at hrb
        have hli : LtIs b n := ⟨hlt⟩
        have hxa : XAt (rs'.map valR) (b * 1) (.slice r.a r.l.length r.c) := ⟨by simp [hr, valR]⟩
        have hbl : b < rs'.length := by omega
        repeat (first | refine g_op rfl ?_ | refine g_then ?_ | refine g_nil ?_ | refine g_region ?_ | refine g_condT ?_ | refine g_build1 rfl rfl fun _ _ => ?_)
        rename_i bt _
        refine g_appendAt (b + 3) (xs := r.l.map (.int .i64)) (e := 3) (by simp [hr, entR]) rfl rfl (by omega) (by omega) fun a' c' => ?_
        refine g_eqH (H1 := Ent.vec (some ⟨bt, 0, none⟩) 1 1 3 1 [.int .i64 c] :: Ent.box p1 [nm, pa, re, .slice ba n bc] 35 :: Ent.vec (some ⟨bo, 0, none⟩) n n 27 1 (rs'.map valR) :: (rs'.set b ⟨a', c', r.l ++ [(c : Int)]⟩).map entR) (by simp [entR, List.map_set]) ?_
        have hxs : XSet (rs'.map valR) (b * 1) (.slice a' (r.l.length + 1) c') ((rs'.set b ⟨a', c', r.l ++ [(c : Int)]⟩).map valR) := ⟨by simp [valR, List.map_set], by simpa using hbl⟩
        repeat (first | refine g_op rfl ?_ | refine g_then ?_ | refine g_nil ?_ | refine g_region ?_ | refine g_opS rfl ?_ | refine g_inBlock ?_ | refine g_add rfl (by omega) (by omega) ?_ | refine g_storeV ?_)
        refine g_next (c + 1, rs'.set b ⟨a', c', r.l ++ [(c : Int)]⟩) ⟨hclt, by simpa using hrl', fun i q hq => ?_⟩ (by simp only; omega) (by repeat (first | exact trivial | refine ⟨rfl, ?_⟩)) (List.Sublist.cons _ (List.Sublist.refl _))
        simp only
        rw [tableTo_succ]
        simp only [List.getElem?_set] at hq
        by_cases hib : b = i
        · subst hib
          simp only [if_true, hbl, Option.some.injEq] at hq
          subst hq
          simp only [if_true, if_pos hs]
          rw [hrows' b r hr]
        · rw [if_neg hib] at hq
          rw [if_neg (Ne.symm hib)]
          exact hrows' i q hq
      · have hs : ¬ Sure bl b c := fun h => h.2 (by simpa using he2)
        repeat (first | refine g_op rfl ?_ | refine g_then ?_ | refine g_nil ?_ | refine g_region ?_ | refine g_opS rfl ?_ | refine g_inBlock ?_ | refine g_skip ?_ | refine g_condF ?_ | refine g_add rfl (by omega) (by omega) ?_)
        refine g_next (c + 1, rs') ⟨hclt, hrl', fun i q hq => ?_⟩ (by simp only; omega) (by repeat (first | exact trivial | refine ⟨rfl, ?_⟩)) (List.Sublist.refl _)
        simp only
        rw [tableTo_succ, if_neg hs, List.append_nil, hrows' i q hq]
        by_cases hib : i = b
        · subst hib; simp
        · simp [hib]
    · have hge : c = n := by have := h2; simp at this; omega
      repeat (first | refine g_op rfl ?_ | refine g_then ?_ | refine g_nil ?_ | refine g_region ?_ | refine g_opS rfl ?_ | refine g_inBlock ?_ | refine g_add rfl (by omega) (by omega) ?_ | refine g_exit ?_ | refine g_thenExit ?_ | refine g_exitHere ?_)
      refine g_next (b + 1, rs') ⟨hlt, hrl', fun i q hq => ?_⟩ (by simp only; omega) (by repeat (first | exact trivial | refine ⟨rfl, ?_⟩)) (List.Sublist.refl _)
      rw [tableTo_next, hrows' i q hq, hge, hn]
  · have hge : b = n := by have := h1; simp at this; omega
    repeat (first | refine g_op rfl ?_ | refine g_then ?_ | refine g_nil ?_ | refine g_region ?_ | refine g_seq ?_ | refine g_exit ?_ | refine g_thenExit ?_ | refine g_exitHere ?_ | refine g_ret ?_)
    refine g_ret1 rfl fun w hw => ⟨(bo, _, rs), rfl, (hw.sub (List.Sublist.cons _ (List.Sublist.refl _))).tab fun r hr => ?_, ?_⟩
    · obtain ⟨i, hi⟩ := List.getElem?_of_mem hr
      have := tableTo_bd bl (by omega) b 0 i (by omega)
      rw [← hrows i r hi] at this
      exact ⟨by omega, this.2⟩
    · show rs.map (·.l) = tableL bl
      apply List.ext_getElem?
      intro i
      rw [List.getElem?_map, tableL, List.getElem?_map]
      by_cases hin : i < n
      · rw [List.getElem?_eq_getElem (by omega : i < rs.length), List.getElem?_range (by omega)]
        simp only [Option.map_some, Option.some.injEq]
        rw [hrows i _ (List.getElem?_eq_getElem (by omega)), tableTo, if_pos (by omega)]
      · rw [List.getElem?_eq_none (by omega), List.getElem?_eq_none (by rw [List.length_range]; omega)]
        rfl
end Go.Proofs.YtebajiafdkokjaaDoor

/- A region that draws its order and writes: every order ends in one of the states that are told by some z. Grids of rows, as plain facts. -/
namespace Go.Proofs.YtebajiafdkokjaaDoor
open Go Go.RowKit

section
variable {P : Program} {ro : Option Nat} {N : Nat} {ds : List Deferred} {S : Nat → Prop} {w0 : World} {L L' : List (Nat × Value)} {H H' : List Ent} {Q : Exit → Act → World → Prop}
theorem wpAnyIn_of_only {M : Act → World → Prop} {ops : Array Oper} (k : ∀ a w, M a w → Q .normal a w) : ∀ (fuel : Nat) (listed : Array Bool) (a : Act) (w : World), wpAnyIn (FW ro) 0 P .any ops (OnlyN M) fuel listed a w → wpAnyIn (FW ro) 0 P .any ops Q fuel listed a w := by
  intro fuel
  induction fuel with
  | zero => exact fun listed a w h => ⟨h.1, k a w h.2⟩
  | succ fuel ih =>
    intro listed a w h
    refine ⟨fun e => k a w (h.1 e), fun i hi => ?_⟩
    have h2 := h.2 i hi
    unfold wpOpIn at h2 ⊢
    split
    · rename_i ho
      simp only [ho] at h2
      exact ih _ _ _ h2
    · rename_i o ho
      simp only [ho] at h2
      split
      · rename_i hw
        rw [if_pos hw] at h2
        refine ⟨h2.1, ?_⟩
        have h3 := h2.2
        revert h3
        generalize (o.semAt (FW ro).round a.eval).run P w = r
        intro h3
        cases r with
        | ok nx w1 =>
          cases nx with
          | value v => exact ih _ _ _ h3
          | skip => exact ih _ _ _ h3
          | defer d => exact ih _ _ _ h3
          | enter f args =>
            refine ⟨h3.1, h3.2.mono fun e w2 hh => ?_⟩
            cases e with
            | returned v => exact ih _ _ _ hh
            | panicked c => exact (hh : False).elim
            | outgrown => exact (Exists.elim hh fun _ h => Exists.elim h fun _ h => (h : False).elim)
          | row r args => exact ⟨h3.1, h3.2.mono fun v w2 hh => ih _ _ _ hh⟩
          | round l f tmps assign body =>
            refine ⟨h3.1, h3.2.mono fun e w2 hh => ?_⟩
            cases e with
            | returned v => exact ih _ _ _ hh
            | panicked c => exact (hh : False).elim
            | outgrown => exact (Exists.elim hh fun _ h => Exists.elim h fun _ h => (h : False).elim)
          | _ => exact h3
        | halt x w1 => cases x <;> exact (h3 : False).elim
      · rename_i hw
        rw [if_neg hw] at h2
        exact ⟨h2.1, ih _ _ _ h2.2⟩
/-- every order ends in one of these states -/
theorem g_drawE {α : Type} {id n : Nat} {l : List Oper} [hl : LenO l n] (Lz : α → List (Nat × Value)) (Hz : α → List Ent) (hm : P.follows .mixedOrders = true)
    (h : G N ds S w0 L H (wpAnyIn (FW ro) 0 P .any l.toArray (OnlyN fun a w => ∃ z, St N ds S w0 (Lz z) (Hz z) a w) n (Array.replicate n false)))
    (k : ∀ z, G N ds S w0 (Lz z) (Hz z) (Q .normal)) : G N ds S w0 L H (Code.wpIn (FW ro) 0 P (Code.region id l.toArray true) Q) := fun a w hS => by
  refine wpIn_region_any hm ?_
  have h1 := h a { w with drawn := w.drawn + 1 } ⟨hS.fr, hS.wd.same rfl rfl rfl rfl⟩
  have := wpAnyIn_of_only (fun a w ⟨z, hz⟩ => k z a w hz) _ _ _ _ h1
  rw [← hl.eq] at this
  simpa using this
theorem g_doneE {α : Type} {Lz : α → List (Nat × Value)} {Hz : α → List Ent} (z : α) (hL : allIn L (Lz z)) (hH : (Hz z).Sublist H) : G N ds S w0 L H (fun a w => ∃ z, St N ds S w0 (Lz z) (Hz z) a w) := fun _ _ hS => ⟨z, hS.fix hL hH⟩
end

/-! ### Rows of those c for which R b c, row by row -/
open Classical in
noncomputable def gridTo (R : Nat → Nat → Prop) (n b c i : Nat) : List Int := ((List.range (if i < b then n else if i = b then c else 0)).filter fun d => decide (R i d)).map fun x : Nat => (x : Int)
open Classical in
noncomputable def gridL (R : Nat → Nat → Prop) (n : Nat) : List (List Int) := (List.range n).map fun b => ((List.range n).filter fun d => decide (R b d)).map fun x : Nat => (x : Int)
theorem gridTo_bd (R : Nat → Nat → Prop) {n : Nat} (hn : n ≤ 100) (b c i : Nat) (hc : c ≤ 100) : (gridTo R n b c i).length ≤ 100 ∧ ∀ x ∈ gridTo R n b c i, inI x := by
  classical
  have h1 : (if i < b then n else if i = b then c else 0) ≤ 100 := by split <;> (try split) <;> omega
  refine ⟨?_, fun x hx => ?_⟩
  · rw [gridTo, List.length_map]
    have := List.length_filter_le (fun d => decide (R i d)) (List.range (if i < b then n else if i = b then c else 0))
    rw [List.length_range] at this
    omega
  · rw [gridTo] at hx
    obtain ⟨y, hy, rfl⟩ := List.mem_map.1 hx
    have := (List.mem_filter.1 hy).1
    have : y < _ := List.mem_range.1 this
    simp only [inI]; omega
open Classical in
theorem gridTo_succ {R : Nat → Nat → Prop} {n b c i : Nat} : gridTo R n b (c + 1) i = if i = b then gridTo R n b c b ++ (if R b c then [(c : Int)] else []) else gridTo R n b c i := by
  by_cases hi : i = b
  · subst hi
    simp only [gridTo, Nat.lt_irrefl, if_false, if_true]
    rw [filterTo_succ c, List.map_append]
    congr 1
    by_cases h : R i c <;> simp [h]
  · simp only [gridTo, if_neg hi]
theorem gridTo_next {R : Nat → Nat → Prop} {n b i : Nat} : gridTo R n (b + 1) 0 i = gridTo R n b n i := by
  unfold gridTo
  congr 3
  by_cases h1 : i < b
  · simp [h1, show i < b + 1 by omega]
  · by_cases h2 : i = b
    · subst h2; simp
    · rw [if_neg (by omega), if_neg h1, if_neg h2]
      by_cases h3 : i = b + 1 <;> simp [h3]
theorem gridTo_zero {R : Nat → Nat → Prop} {n i : Nat} : gridTo R n 0 0 i = [] := by simp [gridTo]
theorem gridTo_all {R : Nat → Nat → Prop} {n : Nat} {rs : List Row} (hl : rs.length = n) (h : ∀ i r, rs[i]? = some r → r.l = gridTo R n n 0 i) : rs.map (·.l) = gridL R n := by
  apply List.ext_getElem?
  intro i
  rw [List.getElem?_map, gridL, List.getElem?_map]
  by_cases hin : i < n
  · rw [List.getElem?_eq_getElem (by omega : i < rs.length), List.getElem?_range (by omega)]
    simp only [Option.map_some, Option.some.injEq]
    rw [h i _ (List.getElem?_eq_getElem (by omega)), gridTo, if_pos (by omega)]
  · rw [List.getElem?_eq_none (by omega), List.getElem?_eq_none (by rw [List.length_range]; omega)]
    rfl
theorem grid_new (n : Nat) {R : Nat → Nat → Prop} : ∀ i r, (List.replicate n (⟨none, 0, []⟩ : Row))[i]? = some r → r.l = gridTo R n 0 0 i := fun i r hr => by
  simp only [List.getElem?_replicate] at hr
  split at hr
  · simp only [Option.some.injEq] at hr
    subst hr
    exact gridTo_zero.symm
  · cases hr
/-- row b takes c in -/
theorem grid_add {R : Nat → Nat → Prop} {n b c : Nat} {rs : List Row} {r : Row} {a' : Option Addr} {c' : Nat} (h : ∀ i q, rs[i]? = some q → q.l = gridTo R n b c i) (hr : rs[b]? = some r) (hs : R b c) :
    ∀ i q, (rs.set b ⟨a', c', r.l ++ [(c : Int)]⟩)[i]? = some q → q.l = gridTo R n b (c + 1) i := by
  classical
  intro i q hq
  have hbl := (List.getElem?_eq_some_iff.1 hr).1
  rw [gridTo_succ]
  simp only [List.getElem?_set] at hq
  by_cases hib : b = i
  · subst hib
    simp only [if_true, hbl, Option.some.injEq] at hq
    subst hq
    simp only [if_true, if_pos hs]
    rw [h b r hr]
  · rw [if_neg hib] at hq
    rw [if_neg (Ne.symm hib)]
    exact h i q hq
theorem grid_pass {R : Nat → Nat → Prop} {n b c : Nat} {rs : List Row} (h : ∀ i q, rs[i]? = some q → q.l = gridTo R n b c i) (hs : ¬ R b c) : ∀ i q, rs[i]? = some q → q.l = gridTo R n b (c + 1) i := by
  classical
  intro i q hq
  rw [gridTo_succ, if_neg hs, List.append_nil, h i q hq]
  by_cases hib : i = b
  · subst hib; simp
  · simp [hib]
end Go.Proofs.YtebajiafdkokjaaDoor

/- graph.Reach; the law GraphReaches, walked. -/
namespace Go.Proofs.YtebajiafdkokjaaDoor
open Go Go.RowKit
attribute [local irreducible] wpListIn Code.wpIn Exit.then Exit.inBlock bodyPost wpQuiet wpAnyIn
set_option maxHeartbeats 4000000

theorem check_pos {u : LUnit} (h : (checkL u).1 = 0) {k : Nat} {X : LFunc} (hX : u.funcs[k]? = some X) : 0 < X.blocks.length := by
  unfold checkL at h
  split at h
  · cases h
  · split at h
    · rename_i h2; exact absurd h h2
    · split at h
      · rename_i h2; exact absurd h h2
      · rename_i h3
        have hz := firstI_zero (by simpa using h3)
        have := hz k (List.getElem?_eq_some_iff.1 hX).1
        simp only [headAt, at0, hX, headErr] at this
        refine Classical.byContradiction fun hn => ?_
        have e : X.blocks.length = 0 := by omega
        rw [e] at this
        simp [within] at this
        split at this
        · omega
        · split at this
          · omega
          · split at this <;> omega
theorem reach_bad (u : LUnit) (hl : light u) (k : Int) (hk : inI k) (hbad : (askedL u k).1 ≠ 0) (g fs : Value) (w0 : World) (hg : SlAt w0 g 3 u.globals GlobalV) (hf : SlAt w0 fs 4 u.funcs FuncV) (hways : CellsAt w0 0 0 waysC) :
    RetV Tryd.prog 18 [.agg #[g, fs], .int .i64 k] w0 (.tuple #[.slice none 0 0, .agg #[.int .i64 (askedL u k).1, .int .i64 (askedL u k).2]]) := by
  have hg0 := hg
  have hf0 := hf
  obtain ⟨ga, gn, gc, gb, go, rfl, _⟩ := hg
  obtain ⟨fa, fn, fc, fb, fo, rfl, _⟩ := hf
  refine ret_enter Tryd.func18 rfl Tryd.ntmps18 rfl (Wd.nil NoS w0) ?_
  repeat (first | refine g_op rfl ?_ | refine g_then ?_ | refine g_nil ?_ | refine g_region ?_ | refine g_seq ?_ | refine g_box rfl fun _ _ => ?_ | refine g_alloc rfl fun _ _ => ?_)
  rename_i p2 _ p5 _
  refine g_callV rfl (fun w hw => func_bad u hl k hk hbad _ _ w (hg0.keep keeps_global hw.chg) (hf0.keep keeps_func hw.chg) (hways.keep hw.chg)) ?_
  unfold zeroFn
  repeat (first | refine g_op rfl ?_ | refine g_then ?_ | refine g_nil ?_ | refine g_region ?_ | refine g_seq ?_ | refine g_alloc rfl fun _ _ => ?_ | refine g_storeAgg ?_)
  rename_i p6 _ p7 _
  refine g_cond (fun h1 => ?_) (fun h1 => ?_)
  · repeat (refine g_seq ?_)
    refine g_drawW [(4, .slice none 0 0), (5, .pointer (some ⟨p5, 0, none⟩))] [Ent.box p5 [.int .i64 (askedL u k).1, .int .i64 (askedL u k).2] 29] mixed ?_ ?_
    · repeat' (first | refine g_any0 (by decide +kernel) ?_ | refine g_any (by decide +kernel) ?_ | refine any_nil | refine any_skip (by decide +kernel) ?_ | refine any_cons ?_ ?_ | refine g_op rfl ?_ | refine g_then ?_ | refine g_nil ?_ | refine g_opS rfl ?_ | refine g_storeAgg ?_)
      all_goals exact g_done (by repeat (first | exact trivial | refine ⟨rfl, ?_⟩)) (by simp)
    · repeat (first | refine g_then ?_ | refine g_ret ?_ | refine g_thenRet ?_)
      exact g_retTC rfl fun _ hw => ⟨rfl, hw.chg⟩
  · exact absurd h1 (by simp [hbad])
theorem reach_ok (u : LUnit) (hl : light u) (k : Nat) (hgood : (askedL u k).1 = 0) (X : LFunc) (hX : u.funcs[k]? = some X) (hok : GoodB X.blocks) (hpos : 0 < X.blocks.length) (g fs : Value) (w0 : World) (hg : SlAt w0 g 3 u.globals GlobalV) (hf : SlAt w0 fs 4 u.funcs FuncV) (hways : CellsAt w0 0 0 waysC) :
    Ret Tryd.prog 18 [.agg #[g, fs], .int .i64 k] w0 fun v w' => ∃ x : Nat, v = .tuple #[.slice (some ⟨x, 0, none⟩) X.blocks.length X.blocks.length, .agg #[.int .i64 0, .int .i64 0]] ∧ Wd NoS w0 [Ent.vec (some ⟨x, 0, none⟩) X.blocks.length X.blocks.length 4 1 ((seenOf X.blocks 0).map .bool)] w' ∧ True := by
  classical
  have hg0 := hg
  have hf0 := hf
  obtain ⟨ga, gn, gc, gb, go, rfl, _⟩ := hg
  obtain ⟨fa, fn, fc, fb, fo, rfl, _⟩ := hf
  have hlx := hl.2 X (List.mem_of_getElem? hX)
  have h24 := hlx.1
  obtain ⟨bv, hbv, hfc⟩ := func_ok u hl k hgood _ _ X hX w0 hg0 hf0 hways
  have hbv0 := hbv
  obtain ⟨ba, n, bc, bb, bo', rfl, hn, hnc, hnb, hbc, hba, hel⟩ := hbv
  refine ret_enter Tryd.func18 rfl Tryd.ntmps18 rfl (Wd.nil NoS w0) ?_
  repeat (first | refine g_op rfl ?_ | refine g_then ?_ | refine g_nil ?_ | refine g_region ?_ | refine g_seq ?_ | refine g_box rfl fun _ _ => ?_ | refine g_alloc rfl fun _ _ => ?_)
  rename_i p2 _ p5 _
  refine g_callV rfl (fun w hw => hfc w hw.chg) ?_
  repeat (first | refine g_op rfl ?_ | refine g_then ?_ | refine g_nil ?_ | refine g_region ?_ | refine g_seq ?_ | refine g_alloc rfl fun _ _ => ?_ | refine g_storeAgg ?_ | refine g_skip ?_ | refine g_condF ?_ | refine g_make rfl (by omega) (by omega) fun _ _ => ?_)
  rename_i p6 _ p7 _ ob _
  refine g_callE (val := fun x : Option Addr × Nat => .slice x.1 (postL X.blocks).length x.2) (E := fun x => [Ent.vec x.1 (postL X.blocks).length x.2 3 1 ((postL X.blocks).map intN)]) (φ := fun _ => True) rfl (fun w hw => graphPost_c _ _ _ X.blocks _ w (hbv0.keep keeps_block hw.chg) (by omega) hok hpos) fun x _ => ?_
  obtain ⟨qa, qc⟩ := x
  rw [← hn, show List.replicate n (Value.bool false) = (List.replicate n false).map Value.bool by simp]
  simp only [List.cons_append, List.nil_append]
  have hql := postL_len hpos
  repeat (first | refine g_op rfl ?_ | refine g_then ?_ | refine g_nil ?_ | refine g_block ?_)
  refine g_loop (fun (x : Nat × Option Addr × List Bool) => x.1 ≤ (postL X.blocks).length ∧ x.2.2.length = n ∧ ∀ y, x.2.2[y]? = some true ↔ y ∈ (postL X.blocks).take x.1) (fun x => [(28, .int .i64 x.1), (26, .slice x.2.1 (postL X.blocks).length qc), (27, .int .i64 (postL X.blocks).length), (8, .slice (some ⟨ob, 0, none⟩) n n), (6, .pointer (some ⟨p6, 0, none⟩)), (7, .pointer (some ⟨p7, 0, none⟩)), (5, .pointer (some ⟨p5, 0, none⟩))])
    (fun x => [Ent.vec x.2.1 (postL X.blocks).length qc 3 1 ((postL X.blocks).map intN), Ent.vec (some ⟨ob, 0, none⟩) n n 4 1 (x.2.2.map .bool), Ent.box p7 [.int .i64 0, .int .i64 0] 29, Ent.box p6 [.string X.name, .int .i64 X.params, .int .i64 X.regs, .slice ba n bc] 35, Ent.box p5 [.int .i64 0, .int .i64 0] 29]) (fun x => (postL X.blocks).length - x.1) (0, qa, List.replicate n false)
    ⟨Nat.zero_le _, by simp, fun y => by simp [List.getElem?_replicate]⟩ (g_done (by repeat (first | exact trivial | refine ⟨rfl, ?_⟩)) (by simp)) fun x ⟨hi, hol, hout⟩ => ?_
  obtain ⟨i, qa, out⟩ := x
  simp only at hi hol hout ⊢
  repeat (first | refine g_op rfl ?_ | refine g_then ?_ | refine g_nil ?_ | refine g_region ?_ | refine g_seq ?_)
  refine g_cond (fun h1 => ?_) (fun h1 => ?_)
  · have hlt : i < (postL X.blocks).length := by simpa using h1
    refine g_vec 0 rfl (by omega) fun rb ro hra => ?_
    subst hra
    obtain ⟨y, hy⟩ : ∃ y, (postL X.blocks)[i]? = some y := ⟨_, List.getElem?_eq_getElem hlt⟩
    have hyn : y < n := by rw [hn]; exact postL_lt hok hpos (List.mem_of_getElem? hy)
    obtain ⟨ov, hov⟩ : ∃ ov, out[y]? = some ov := ⟨_, List.getElem?_eq_getElem (by omega)⟩
    have hli : LtIs i (postL X.blocks).length := ⟨hlt⟩
    have hly : LtIs y n := ⟨hyn⟩
    have hea : ElAt out y ov := ⟨hov⟩
    have hxat : XAt ((postL X.blocks).map intN) (i * 1) (.int .i64 (y : Int)) := ⟨by simp [hy, intN]⟩
    repeat (first | refine g_op rfl ?_ | refine g_then ?_ | refine g_nil ?_ | refine g_region ?_ | refine g_seq ?_ | refine g_opS rfl ?_ | refine g_inBlock ?_ | refine g_block ?_ | refine g_skip ?_ | refine g_add rfl (by omega) (by omega) ?_ | refine g_storeV ?_)
    refine g_next (i + 1, some ⟨rb, ro, none⟩, out.set y true) ⟨hlt, by simpa using hol, fun z => ?_⟩ (by simp only; omega) (by repeat (first | exact trivial | refine ⟨rfl, ?_⟩)) (List.Sublist.refl _)
    simp only
    rw [List.take_add_one, hy, List.mem_append, List.getElem?_set]
    simp only [Option.toList_some, List.mem_singleton]
    by_cases e : y = z
    · subst e
      simp only [if_true, or_true, iff_true]
      rw [if_pos (by omega)]
    · rw [if_neg e, hout z]
      exact ⟨.inl, fun h => h.resolve_right fun h => e h.symm⟩
  · have hge : i = (postL X.blocks).length := by have := h1; simp at this; omega
    have hfin : out = seenOf X.blocks 0 := by
      apply List.ext_getElem?
      intro y
      by_cases hy : y < n
      · rw [seenOf_get (by omega)]
        obtain ⟨v, hv⟩ : ∃ v, out[y]? = some v := ⟨_, List.getElem?_eq_getElem (by omega)⟩
        have h2 := hout y
        rw [hge, List.take_length, postL_mem hok hpos, hv] at h2
        rw [hv]
        congr 1
        cases v
        · symm; rw [decide_eq_false_iff_not]; intro hr; exact absurd (h2.2 hr) (by simp)
        · symm; rw [decide_eq_true_eq]; exact h2.1 rfl
      · rw [List.getElem?_eq_none (by omega), List.getElem?_eq_none (by rw [seenOf_length]; omega)]
    repeat (first | refine g_then ?_ | refine g_seq ?_ | refine g_exit ?_ | refine g_thenExit ?_ | refine g_exitHere ?_)
    refine g_drawW [(4, .slice (some ⟨ob, 0, none⟩) n n), (5, .pointer (some ⟨p5, 0, none⟩))] [Ent.vec (some ⟨ob, 0, none⟩) n n 4 1 (out.map .bool), Ent.box p5 [.int .i64 0, .int .i64 0] 29] mixed ?_ ?_
    · repeat' (first | refine g_any0 (by decide +kernel) ?_ | refine g_any (by decide +kernel) ?_ | refine any_nil | refine any_skip (by decide +kernel) ?_ | refine any_cons ?_ ?_ | refine g_op rfl ?_ | refine g_then ?_ | refine g_nil ?_ | refine g_storeAgg ?_)
      all_goals exact g_done (by repeat (first | exact trivial | refine ⟨rfl, ?_⟩)) (List.Sublist.cons _ (List.Sublist.cons_cons _ (List.Sublist.cons _ (List.Sublist.cons _ (List.Sublist.refl _)))))
    · repeat (first | refine g_then ?_ | refine g_ret ?_)
      refine g_retTC rfl fun w hw => ⟨ob, rfl, ?_, trivial⟩
      rw [← hfin]
      exact hw.sub (List.Sublist.cons_cons _ (List.nil_sublist _))
theorem reached_c (nm pa re : Value) (bl : List LBlock) (bs : Value) (hbsl : ∃ a n c, bs = .slice a n c) (w0 : World) (hbs : SlAt w0 bs 6 bl BlockV) (hlen : bl.length ≤ 100) (hok : GoodB bl) (hb : 0 < bl.length) :
    Ret Tryd.prog 19 [.agg #[nm, pa, re, bs]] w0 fun u w' => ∃ x : Option Addr × Nat × List Nat, u = .slice x.1 x.2.2.length x.2.1 ∧ Wd NoS w0 [Ent.vec x.1 x.2.2.length x.2.1 3 1 (x.2.2.map intN)] w' ∧ FromR bl (-1) 0 x.2.2 := by
  obtain ⟨ba, n, bc, rfl⟩ := hbsl
  refine ret_enter Tryd.func19 rfl Tryd.ntmps19 rfl (Wd.nil NoS w0) ?_
  repeat (first | refine g_op rfl ?_ | refine g_then ?_ | refine g_nil ?_ | refine g_region ?_ | refine g_seq ?_ | refine g_box rfl fun _ _ => ?_)
  refine g_callE (val := fun x : Option Addr × Nat × List Nat => .slice x.1 x.2.2.length x.2.1) (E := fun x => [Ent.vec x.1 x.2.2.length x.2.1 3 1 (x.2.2.map intN)]) (φ := fun x => FromR bl (-1) 0 x.2.2) rfl (fun w hw => refFrom_c _ _ _ bl _ 0 (-1) w (hbs.keep keeps_block hw.chg) hlen hok hb) fun x hx => ?_
  obtain ⟨xa, xc, l⟩ := x
  simp only [List.cons_append, List.nil_append] at hx ⊢
  repeat (first | refine g_then ?_ | refine g_nil ?_ | refine g_opS rfl ?_ | refine g_ret ?_)
  exact g_ret1 rfl fun w hw => ⟨(xa, xc, l), rfl, hw.sel [0] (by decide), hx⟩
theorem reachLaw_c (u : LUnit) (k : Int) (hk : inI k) (g fs : Value) (w0 : World) (hg : SlAt w0 g 3 u.globals GlobalV) (hf : SlAt w0 fs 4 u.funcs FuncV) (hways : CellsAt w0 0 0 waysC) :
    RetV Tryd.prog 4 [.agg #[g, fs], .int .i64 k] w0 (.bool true) := by
  classical
  have hg0 := hg
  have hf0 := hf
  obtain ⟨ga, gn, gc, gb, go, rfl, _⟩ := hg
  obtain ⟨fa, fn, fc, fb, fo, rfl, hfn, hfnc, hfnb, hfc, hfa, hfel⟩ := hf
  refine ret_enter Tryd.func4 rfl Tryd.ntmps4 rfl (Wd.nil NoS w0) ?_
  repeat (first | refine g_op rfl ?_ | refine g_then ?_ | refine g_nil ?_ | refine g_region ?_ | refine g_seq ?_ | refine g_box rfl fun _ _ => ?_)
  rename_i p2 _
  refine g_callE (val := fun b : Bool => .bool b) (E := fun _ => []) (φ := fun b => b = false → light u) rfl (fun w hw => heavy_c u _ _ w (hf0.keep keeps_func hw.chg) ⟨_, _, _, rfl⟩) fun b hb => ?_
  simp only [List.nil_append]
  cases b
  case true =>
    repeat (first | refine g_then ?_ | refine g_nil ?_ | refine g_region ?_ | refine g_seq ?_ | refine g_opS rfl ?_ | refine g_condT ?_ | refine g_ret ?_ | refine g_thenRet ?_)
    exact g_retV rfl rfl
  have hl := hb rfl
  repeat (first | refine g_op rfl ?_ | refine g_then ?_ | refine g_nil ?_ | refine g_region ?_ | refine g_seq ?_ | refine g_skip ?_ | refine g_condF ?_)
  by_cases hbad : (askedL u k).1 ≠ 0
  · refine g_callV rfl (fun w hw => reach_bad u hl k hk hbad _ _ w (hg0.keep keeps_global hw.chg) (hf0.keep keeps_func hw.chg) (hways.keep hw.chg)) ?_
    repeat (first | refine g_op rfl ?_ | refine g_then ?_ | refine g_nil ?_ | refine g_region ?_ | refine g_seq ?_ | refine g_alloc rfl fun _ _ => ?_ | refine g_storeAgg ?_)
    refine g_callV rfl (fun w hw => asked_c u hl k _ _ w (hg0.keep keeps_global hw.chg) (hf0.keep keeps_func hw.chg) (hways.keep hw.chg)) ?_
    repeat (first | refine g_op rfl ?_ | refine g_then ?_ | refine g_nil ?_ | refine g_region ?_ | refine g_seq ?_ | refine g_alloc rfl fun _ _ => ?_ | refine g_storeAgg ?_)
    refine g_cond (fun h1 => ?_) (fun h1 => ?_)
    · repeat (first | refine g_op rfl ?_ | refine g_region ?_ | refine g_seq ?_)
      rw [show (decide ((askedL u k).1 = (askedL u k).1) && decide ((askedL u k).2 = (askedL u k).2)) = true by simp]
      repeat (first | refine g_op rfl ?_ | refine g_then ?_ | refine g_nil ?_ | refine g_opS rfl ?_ | refine g_open ?_ | refine g_ret ?_ | refine g_thenRet ?_)
      exact g_retV rfl rfl
    · exact absurd h1 (by simp [hbad])
  have hgood : (askedL u k).1 = 0 := by simpa using hbad
  obtain ⟨hch, has, i, X, rfl, hX, hok⟩ := asked_ok hgood
  have hpos := check_pos hch hX
  have hil : i < fn := by rw [hfn]; exact (List.getElem?_eq_some_iff.1 hX).1
  have had : AddrIs fa fb fo := ⟨hfa (ne_of_get hX)⟩
  have hli : LtIs i fn := ⟨hil⟩
  obtain ⟨cs, hcs, bv, rfl, hpi, hri, hbv⟩ := hfel i X hX
  have hci : CellsIs w0 fb (fo + i * 4) _ := ⟨hcs⟩
  have hbv0 := hbv
  obtain ⟨ba, bn, bc, _, _, rfl, hbn, _⟩ := hbv
  have h24 := (hl.2 X (List.mem_of_getElem? hX)).1
  refine g_callE (val := fun x : Nat => .tuple #[.slice (some ⟨x, 0, none⟩) X.blocks.length X.blocks.length, .agg #[.int .i64 0, .int .i64 0]]) (E := fun x => [Ent.vec (some ⟨x, 0, none⟩) X.blocks.length X.blocks.length 4 1 ((seenOf X.blocks 0).map .bool)]) (φ := fun _ => True) rfl (fun w hw =>
    reach_ok u hl i hgood X hX hok hpos _ _ w (hg0.keep keeps_global hw.chg) (hf0.keep keeps_func hw.chg) (hways.keep hw.chg)) fun ob _ => ?_
  simp only [List.cons_append, List.nil_append]
  rw [← hbn]
  repeat (first | refine g_op rfl ?_ | refine g_then ?_ | refine g_nil ?_ | refine g_region ?_ | refine g_seq ?_ | refine g_alloc rfl fun _ _ => ?_ | refine g_storeAgg ?_)
  rename_i p6 _
  refine g_callV rfl (fun w hw => asked_c u hl i _ _ w (hg0.keep keeps_global hw.chg) (hf0.keep keeps_func hw.chg) (hways.keep hw.chg)) ?_
  rw [has]
  repeat (first | refine g_op rfl ?_ | refine g_then ?_ | refine g_nil ?_ | refine g_region ?_ | refine g_seq ?_ | refine g_alloc rfl fun _ _ => ?_ | refine g_storeAgg ?_ | refine g_skip ?_ | refine g_condF ?_)
  rename_i p7 _
  refine g_callE (val := fun x : Option Addr × Nat × List Nat => .slice x.1 x.2.2.length x.2.1) (E := fun x => [Ent.vec x.1 x.2.2.length x.2.1 3 1 (x.2.2.map intN)]) (φ := fun x => FromR X.blocks (-1) 0 x.2.2) rfl (fun w hw => reached_c _ _ _ X.blocks _ ⟨_, _, _, rfl⟩ w (hbv0.keep keeps_block hw.chg) (by omega) hok hpos) fun x hx => ?_
  obtain ⟨xa, xc, l⟩ := x
  simp only [List.cons_append, List.nil_append] at hx ⊢
  have hlb : l.length ≤ X.blocks.length := nodup_len _ _ hx.1 hx.2.1
  repeat (first | refine g_op rfl ?_ | refine g_then ?_ | refine g_nil ?_ | refine g_region ?_ | refine g_seq ?_)
  refine g_cond (fun h2 => ?_) (fun h2 => ?_)
  · exact absurd h2 (by simp)
  repeat (first | refine g_op rfl ?_ | refine g_then ?_ | refine g_nil ?_ | refine g_region ?_ | refine g_seq ?_ | refine g_block ?_ | refine g_skip ?_)
  refine g_loop (fun (j : Nat) => j ≤ bn) (fun j => [(9, .int .i64 j), (8, .slice xa l.length xc), (5, .slice (some ⟨ob, 0, none⟩) bn bn), (6, .pointer (some ⟨p6, 0, none⟩)), (7, .pointer (some ⟨p7, 0, none⟩)), (4, .bool false)])
    (fun _ => [Ent.vec xa l.length xc 3 1 (l.map intN), Ent.box p7 [.int .i64 0, .int .i64 0] 29, Ent.box p6 [.int .i64 0, .int .i64 0] 29, Ent.vec (some ⟨ob, 0, none⟩) bn bn 4 1 ((seenOf X.blocks 0).map .bool)]) (fun j => bn - j) 0 (Nat.zero_le _) (g_done (by repeat (first | exact trivial | refine ⟨rfl, ?_⟩)) (by simp)) fun j hj => ?_
  repeat (first | refine g_op rfl ?_ | refine g_then ?_ | refine g_nil ?_ | refine g_region ?_ | refine g_seq ?_)
  refine g_cond (fun h2 => ?_) (fun h2 => ?_)
  · have hjl : j < bn := by simpa using h2
    have hlj : LtIs j bn := ⟨hjl⟩
    have hea : ElAt (seenOf X.blocks 0) j (decide (Rch X.blocks (-1) 0 j)) := ⟨seenOf_get (by omega)⟩
    repeat (first | refine g_then ?_ | refine g_seq ?_ | refine g_block ?_ | refine g_skip ?_)
    refine g_draw mixed (by kernel_rfl) ?_
    repeat (refine q_op rfl ?_)
    refine q_call rfl (fun w hw => has_c _ (l.map (fun x : Nat => (x : Int))) j w (ints_sl hw (k := 0) rfl rfl (by omega) fun y hy => by have := hx.2.1 y hy; omega)) ?_
    rw [show decide ((j : Int) ∈ l.map (fun x : Nat => (x : Int))) = decide (Rch X.blocks (-1) 0 j) by rw [decide_eq_decide, mem_ints, hx.2.2 j]; simp]
    repeat (first | refine q_op rfl ?_ | refine q_nil ?_)
    repeat (refine g_then ?_)
    refine g_cond (fun h3 => ?_) (fun h3 => ?_)
    · exact absurd h3 (by simp)
    · repeat (first | refine g_op rfl ?_ | refine g_then ?_ | refine g_nil ?_ | refine g_region ?_ | refine g_opS rfl ?_ | refine g_inBlock ?_ | refine g_skip ?_ | refine g_add rfl (by omega) (by omega) ?_)
      exact g_next (j + 1) hjl (by omega) (by repeat (first | exact trivial | refine ⟨rfl, ?_⟩)) (List.Sublist.refl _)
  · repeat (first | refine g_op rfl ?_ | refine g_then ?_ | refine g_region ?_ | refine g_seq ?_ | refine g_exit ?_ | refine g_thenExit ?_ | refine g_exitHere ?_)
    rw [show (decide ((0 : Int) = 0) && decide ((0 : Int) = 0)) = true from rfl]
    repeat (first | refine g_op rfl ?_ | refine g_then ?_ | refine g_nil ?_ | refine g_opS rfl ?_ | refine g_ret ?_)
    exact g_retV rfl rfl
end Go.Proofs.YtebajiafdkokjaaDoor

/- dom.sure: for each block the table of the blocks that every way to an end meets. -/
namespace Go.Proofs.YtebajiafdkokjaaDoor
open Go Go.RowKit
attribute [local irreducible] wpListIn Code.wpIn Exit.then Exit.inBlock bodyPost wpQuiet wpAnyIn
set_option maxHeartbeats 4000000

def entM (n : Nat) (f : Nat → List Bool) (q : Nat × Nat) : Ent := Ent.vec (some ⟨q.1, 0, none⟩) n n 4 1 ((f q.2).map .bool)
theorem entM_get {n b p : Nat} {ps : List Nat} (h : ps[b]? = some p) (f : Nat → List Bool) : (ps.zipIdx.map (entM n f))[b]? = some (Ent.vec (some ⟨p, 0, none⟩) n n 4 1 ((f b).map .bool)) := by
  rw [List.getElem?_map, List.getElem?_zipIdx, h]
  simp [entM]
theorem entM_set {n b p : Nat} {ps : List Nat} (h : ps[b]? = some p) (f : Nat → List Bool) (l : List Bool) : (ps.zipIdx.map (entM n f)).set b (Ent.vec (some ⟨p, 0, none⟩) n n 4 1 (l.map .bool)) = ps.zipIdx.map (entM n (fun i => if i = b then l else f i)) := by
  apply List.ext_getElem?
  intro i
  rw [List.getElem?_set]
  have hlt : b < ps.length := (List.getElem?_eq_some_iff.1 h).1
  by_cases hib : b = i
  · subst hib
    rw [entM_get h]
    have h2 := (List.getElem?_eq_some_iff.1 h).2
    simp [hlt, entM, h2]
  · rw [if_neg hib]
    rw [List.getElem?_map, List.getElem?_map, List.getElem?_zipIdx]
    cases hp : ps[i]? with
    | none => simp
    | some q => simp [entM, Ne.symm hib]
open Classical in
noncomputable def rowTo (bl : List LBlock) (n b c : Nat) : List Bool := (List.range n).map fun d => decide (d < c ∧ Sure bl b d)
theorem rowTo_set {bl : List LBlock} {n b c : Nat} {v : Bool} (hc : c < n) (hv : v = true ↔ Sure bl b c) : (rowTo bl n b c).set c v = rowTo bl n b (c + 1) := by
  classical
  apply List.ext_getElem?
  intro d
  rw [List.getElem?_set]
  simp only [rowTo, List.length_map, List.length_range, List.getElem?_map]
  by_cases hd : c = d
  · subst hd
    simp only [if_true, hc, List.getElem?_range hc, Option.map_some]
    congr 1
    have : (c < c + 1 ∧ Sure bl b c) ↔ v = true := by rw [hv]; simp
    cases v
    · symm; rw [decide_eq_false_iff_not]; intro h; exact absurd (this.1 h) (by simp)
    · symm; rw [decide_eq_true_eq]; exact this.2 rfl
  · rw [if_neg hd]
    by_cases hdn : d < n
    · rw [List.getElem?_range hdn]
      simp only [Option.map_some, Option.some.injEq, decide_eq_decide]
      constructor
      · rintro ⟨h1, h2⟩; exact ⟨by omega, h2⟩
      · rintro ⟨h1, h2⟩; exact ⟨by omega, h2⟩
    · rw [List.getElem?_eq_none (by rw [List.length_range]; omega)]; rfl
theorem rowTo_get {bl : List LBlock} {n b c d : Nat} (hd : d < n) : ∃ y, (rowTo bl n b c)[d]? = some y := ⟨_, List.getElem?_eq_getElem (by simp [rowTo, hd])⟩
theorem rowTo_full {bl : List LBlock} {b : Nat} : rowTo bl bl.length b bl.length = sureRow bl b := by
  classical
  unfold rowTo sureRow
  apply List.map_congr_left
  intro d hd
  have : d < bl.length := by simpa using hd
  simp [this]
theorem rowTo_zero {bl : List LBlock} {n b : Nat} : rowTo bl n b 0 = List.replicate n false := by
  classical
  apply List.ext_getElem?
  intro d
  simp only [rowTo, List.getElem?_map, List.getElem?_replicate]
  by_cases hd : d < n
  · simp [hd]
  · rw [List.getElem?_eq_none (by rw [List.length_range]; omega)]; simp [hd]
/-- a table of rows of truth values, as one reads it -/
def tabB (bo n : Nat) (ps : List Nat) (f : Nat → List Bool) (w : World) : Prop := ∀ i p, ps[i]? = some p → w.cell? ⟨bo, i, none⟩ = some (valP n p) ∧ ∀ j v, (f i)[j]? = some v → w.cell? ⟨p, j, none⟩ = some (.bool v)
theorem sure_c (nm pa re : Value) (bl : List LBlock) (bs : Value) (w0 : World) (hbs : SlAt w0 bs 6 bl BlockV) (hlen : bl.length ≤ 100) (hok : GoodB bl) :
    Ret Tryd.prog 50 [.agg #[nm, pa, re, bs]] w0 fun u w' => ∃ x : Nat × (Nat → Prop) × List Nat, u = .slice (some ⟨x.1, 0, none⟩) bl.length bl.length ∧ Wd NoS w0 [⟨x.2.1, tabB x.1 bl.length x.2.2 (sureRow bl)⟩] w' ∧ x.2.2.length = bl.length := by
  classical
  have hbs0 := hbs
  obtain ⟨ba, n, bc, bb, bo', rfl, hn, hnc, hnb, hbc, hba, hel⟩ := hbs
  rw [← hn] at hlen ⊢
  refine ret_enter Tryd.func50 rfl Tryd.ntmps50 rfl (Wd.nil NoS w0) ?_
  repeat (first | refine g_op rfl ?_ | refine g_then ?_ | refine g_nil ?_ | refine g_region ?_ | refine g_seq ?_ | refine g_box rfl fun _ _ => ?_ | refine g_make rfl (by omega) (by omega) fun _ _ => ?_)
  rename_i p1 _ po _
  refine g_callE (val := fun p : Nat => .slice (some ⟨p, 0, none⟩) bl.length bl.length) (E := fun p => [Ent.vec (some ⟨p, 0, none⟩) bl.length bl.length 4 1 ((endsOf bl (-1)).map .bool)]) (φ := fun _ => True) rfl (fun w hw => ends_c _ _ _ bl _ (-1) w (hbs0.keep keeps_block hw.chg) (by omega) hok) fun pal _ => ?_
  rw [← hn]
  simp only [List.cons_append, List.nil_append]
  repeat (first | refine g_op rfl ?_ | refine g_then ?_ | refine g_nil ?_ | refine g_region ?_ | refine g_seq ?_ | refine g_block ?_)
  refine g_permH (List.Perm.swap _ _ _) ?_
  refine g_loop (fun (ps : List Nat) => ps.length ≤ n) (fun ps => [(17, .int .i64 ps.length), (16, .int .i64 n), (3, .slice (some ⟨po, 0, none⟩) n n), (4, .slice (some ⟨pal, 0, none⟩) n n), (1, .pointer (some ⟨p1, 0, none⟩))])
    (fun ps => Ent.vec (some ⟨po, 0, none⟩) n n 38 1 (ps.map (valP n) ++ List.replicate (n - ps.length) (.slice none 0 0)) :: Ent.vec (some ⟨pal, 0, none⟩) n n 4 1 ((endsOf bl (-1)).map .bool) :: Ent.box p1 [nm, pa, re, .slice ba n bc] 35 :: ps.zipIdx.map (entM n (fun i => rowTo bl n i 0)))
    (fun ps => n - ps.length) [] (Nat.zero_le _) (g_done (by repeat (first | exact trivial | refine ⟨rfl, ?_⟩)) (List.Sublist.refl _)) fun ps hps => ?_
  repeat (first | refine g_op rfl ?_ | refine g_then ?_ | refine g_nil ?_ | refine g_region ?_ | refine g_seq ?_)
  refine g_cond (fun h1 => ?_) (fun h1 => ?_)
  · have hlt : ps.length < n := by simpa using h1
    have hli : LtIs ps.length n := ⟨hlt⟩
    repeat (first | refine g_op rfl ?_ | refine g_then ?_ | refine g_nil ?_ | refine g_region ?_ | refine g_seq ?_ | refine g_block ?_ | refine g_skip ?_ | refine g_make rfl (by omega) (by omega) fun _ _ => ?_)
    rename_i pn _
    have hxs : XSet (ps.map (valP n) ++ List.replicate (n - ps.length) (.slice none 0 0)) (ps.length * 1) (.slice (some ⟨pn, 0, none⟩) n n) ((ps ++ [pn]).map (valP n) ++ List.replicate (n - (ps ++ [pn]).length) (.slice none 0 0)) := by
      refine ⟨?_, by simp; omega⟩
      rw [Nat.mul_one, List.set_append_right _ _ (by simp)]
      obtain ⟨m, hm⟩ : ∃ m, n - ps.length = m + 1 := ⟨n - ps.length - 1, by omega⟩
      have hm2 : n - (ps ++ [pn]).length = m := by simp; omega
      rw [hm, hm2]
      simp [List.replicate_succ, valP]
    repeat (first | refine g_then ?_ | refine g_nil ?_ | refine g_region ?_ | refine g_opS rfl ?_ | refine g_inBlock ?_ | refine g_add rfl (by omega) (by omega) ?_ | refine g_storeV ?_)
    refine g_permH (List.perm_append_singleton _ _).symm ?_
    refine g_next (ps ++ [pn]) (by simp; omega) (by simp; omega) ?_ ?_
    · simp only [List.length_append, List.length_singleton, Int.natCast_add]
      exact (by repeat (first | exact trivial | refine ⟨rfl, ?_⟩))
    · have : (ps ++ [pn]).zipIdx.map (entM n (fun i => rowTo bl n i 0)) = ps.zipIdx.map (entM n (fun i => rowTo bl n i 0)) ++ [Ent.vec (some ⟨pn, 0, none⟩) n n 4 1 (List.replicate n (.bool false))] := by
        simp [List.zipIdx_append, entM, rowTo_zero]
      rw [this]
      exact List.Sublist.refl _
  have hge : ps.length = n := by have := h1; simp at this; omega
  rw [show n - ps.length = 0 by omega, List.replicate_zero, List.append_nil]
  have rowP : ∀ d, d < n → ∃ pd, ps[d]? = some pd := fun d hd => ⟨_, List.getElem?_eq_getElem (by omega)⟩
  repeat (first | refine g_op rfl ?_ | refine g_then ?_ | refine g_nil ?_ | refine g_region ?_ | refine g_seq ?_ | refine g_block ?_ | refine g_exit ?_ | refine g_thenExit ?_ | refine g_exitHere ?_)
  refine g_loop (fun (c : Nat) => c ≤ n) (fun c => [(31, .int .i64 c), (30, .int .i64 n), (3, .slice (some ⟨po, 0, none⟩) n n), (4, .slice (some ⟨pal, 0, none⟩) n n), (1, .pointer (some ⟨p1, 0, none⟩))])
    (fun c => Ent.vec (some ⟨po, 0, none⟩) n n 38 1 (ps.map (valP n)) :: Ent.vec (some ⟨pal, 0, none⟩) n n 4 1 ((endsOf bl (-1)).map .bool) :: Ent.box p1 [nm, pa, re, .slice ba n bc] 35 :: ps.zipIdx.map (entM n (fun i => rowTo bl n i c)))
    (fun c => n - c) 0 (Nat.zero_le _) (g_done (by repeat (first | exact trivial | refine ⟨rfl, ?_⟩)) (List.Sublist.refl _)) fun c hc => ?_
  repeat (first | refine g_op rfl ?_ | refine g_then ?_ | refine g_nil ?_ | refine g_region ?_ | refine g_seq ?_)
  refine g_cond (fun h2 => ?_) (fun h2 => ?_)
  · have hcn : c < n := by simpa using h2
    repeat (first | refine g_op rfl ?_ | refine g_then ?_ | refine g_nil ?_ | refine g_region ?_ | refine g_seq ?_ | refine g_block ?_ | refine g_skip ?_)
    refine g_callE (val := fun p : Nat => .slice (some ⟨p, 0, none⟩) bl.length bl.length) (E := fun p => [Ent.vec (some ⟨p, 0, none⟩) bl.length bl.length 4 1 ((endsOf bl c).map .bool)]) (φ := fun _ => True) rfl (fun w hw => ends_c _ _ _ bl _ c w (hbs0.keep keeps_block hw.chg) (by omega) hok) fun pw _ => ?_
    rw [← hn]
    simp only [List.cons_append, List.nil_append]
    repeat (first | refine g_op rfl ?_ | refine g_then ?_ | refine g_nil ?_ | refine g_region ?_ | refine g_seq ?_ | refine g_block ?_)
    refine g_loop (fun (b : Nat) => b ≤ n) (fun b => [(40, .int .i64 b), (39, .int .i64 n), (7, .slice (some ⟨pw, 0, none⟩) n n), (6, .int .i64 c), (31, .int .i64 c), (30, .int .i64 n), (3, .slice (some ⟨po, 0, none⟩) n n), (4, .slice (some ⟨pal, 0, none⟩) n n), (1, .pointer (some ⟨p1, 0, none⟩))])
      (fun b => Ent.vec (some ⟨pw, 0, none⟩) n n 4 1 ((endsOf bl c).map .bool) :: Ent.vec (some ⟨po, 0, none⟩) n n 38 1 (ps.map (valP n)) :: Ent.vec (some ⟨pal, 0, none⟩) n n 4 1 ((endsOf bl (-1)).map .bool) :: Ent.box p1 [nm, pa, re, .slice ba n bc] 35 :: ps.zipIdx.map (entM n (fun i => rowTo bl n i (if i < b then c + 1 else c))))
      (fun b => n - b) 0 (Nat.zero_le _) (g_done (by repeat (first | exact trivial | refine ⟨rfl, ?_⟩)) (by simp)) fun b hb => ?_
    repeat (first | refine g_op rfl ?_ | refine g_then ?_ | refine g_nil ?_ | refine g_region ?_ | refine g_seq ?_)
    refine g_cond (fun h3 => ?_) (fun h3 => ?_)
    · have hbn : b < n := by simpa using h3
      obtain ⟨pb, hpb⟩ := rowP b hbn
      have hlb : LtIs b n := ⟨hbn⟩
      have hlc : LtIs c n := ⟨hcn⟩
      have hxa : XAt (ps.map (valP n)) (b * 1) (.slice (some ⟨pb, 0, none⟩) n n) := ⟨by simp [hpb, valP]⟩
      obtain ⟨av, hav⟩ : ∃ av, (endsOf bl (-1))[b]? = some av := ⟨_, endsOf_get (by omega)⟩
      obtain ⟨wv, hwv⟩ : ∃ wv, (endsOf bl c)[b]? = some wv := ⟨_, endsOf_get (by omega)⟩
      have hea : ElAt (endsOf bl (-1)) b av := ⟨hav⟩
      have hew : ElAt (endsOf bl c) b wv := ⟨hwv⟩
      rw [endsOf_get (by omega)] at hav hwv
      simp only [Option.some.injEq] at hav hwv
      obtain ⟨y, hy⟩ := rowTo_get (bl := bl) (b := b) (c := c) hcn
      have hey : ElAt (rowTo bl n b c) c y := ⟨hy⟩
      have hoa : OwnAt (ps.zipIdx.map (entM n (fun i => rowTo bl n i (if i < b then c + 1 else c)))) pb (0 + c * 1) b 0 (c * 1) n n 4 1 ((rowTo bl n b c).map .bool) := ⟨by rw [entM_get hpb]; simp, rfl⟩
      have hset : ∀ v : Bool, (v = true ↔ Sure bl b c) → SetAt (ps.zipIdx.map (entM n (fun i => rowTo bl n i (if i < b then c + 1 else c)))) b (Ent.vec (some ⟨pb, 0, none⟩) n n 4 1 (((rowTo bl n b c).set c v).map .bool)) (ps.zipIdx.map (entM n (fun i => rowTo bl n i (if i < b + 1 then c + 1 else c)))) := by
        intro v hv
        refine ⟨?_⟩
        rw [entM_set hpb, rowTo_set hcn hv]
        congr 2
        funext i
        by_cases hib : i = b
        · subst hib; simp
        · rw [if_neg hib]
          congr 1
          by_cases h : i < b
          · rw [if_pos h, if_pos (by omega)]
          · rw [if_neg h, if_neg (by omega)]
      repeat (first | refine g_op rfl ?_ | refine g_then ?_ | refine g_nil ?_ | refine g_region ?_ | refine g_seq ?_ | refine g_block ?_ | refine g_skip ?_)
      have hsub : ∀ T : List Ent, List.Sublist [Ent.vec (some ⟨pw, 0, none⟩) n n 4 1 ((endsOf bl c).map .bool), Ent.vec (some ⟨po, 0, none⟩) n n 38 1 (ps.map (valP n)), Ent.vec (some ⟨pal, 0, none⟩) n n 4 1 ((endsOf bl (-1)).map .bool), Ent.box p1 [nm, pa, re, .slice ba n bc] 35] (Ent.vec (some ⟨pw, 0, none⟩) n n 4 1 ((endsOf bl c).map .bool) :: Ent.vec (some ⟨po, 0, none⟩) n n 38 1 (ps.map (valP n)) :: Ent.vec (some ⟨pal, 0, none⟩) n n 4 1 ((endsOf bl (-1)).map .bool) :: Ent.box p1 [nm, pa, re, .slice ba n bc] 35 :: T) := fun T => List.sublist_append_left [_, _, _, _] T
      cases av
      · have hs := hset false (by simp only [Sure, reduceCtorEq, false_iff]; intro h; exact absurd h.1 (by simpa using hav))
        refine g_drawH [Ent.vec (some ⟨pw, 0, none⟩) n n 4 1 ((endsOf bl c).map .bool), Ent.vec (some ⟨po, 0, none⟩) n n 38 1 (ps.map (valP n)), Ent.vec (some ⟨pal, 0, none⟩) n n 4 1 ((endsOf bl (-1)).map .bool), Ent.box p1 [nm, pa, re, .slice ba n bc] 35] mixed (hsub _) ?_
        refine h_take 0 rfl (by decide +kernel) (hsub _) ?_
        refine h_take 1 rfl (by decide +kernel) (hsub _) ?_
        refine h_take 2 rfl (by decide +kernel) (hsub _) ?_
        refine h_take 3 rfl (by decide +kernel) (hsub _) ?_
        refine h_take 4 rfl (by decide +kernel) (hsub _) ?_
        refine h_take 5 rfl (by decide +kernel) (hsub _) ?_
        refine h_take 6 rfl (by decide +kernel) (hsub _) ?_
        refine h_take 7 rfl (by decide +kernel) (hsub _) ?_
        refine h_take 8 rfl (by decide +kernel) (hsub _) ?_
        refine h_take 9 rfl (by decide +kernel) (hsub _) ?_
        refine h_takeP 10 rfl (by decide +kernel) (hsub _) ?_
        refine h_takeP 11 rfl (by decide +kernel) (hsub _) ?_
        refine h_takeP 12 rfl (by decide +kernel) (hsub _) ?_
        refine h_takeP 13 rfl (by decide +kernel) (hsub _) ?_
        refine h_takeP 14 rfl (by decide +kernel) (hsub _) ?_
        refine h_take 15 rfl (by decide +kernel) (hsub _) ?_
        refine h_take 16 rfl (by decide +kernel) (hsub _) ?_
        refine h_storeV 17 (by decide +kernel) (by decide +kernel) (hsub _) ?_
        repeat (first | refine g_then ?_ | refine g_nil ?_ | refine g_region ?_ | refine g_opS rfl ?_ | refine g_inBlock ?_ | refine g_add rfl (by omega) (by omega) ?_)
        exact g_next (b + 1) hbn (by omega) (by repeat (first | exact trivial | refine ⟨rfl, ?_⟩)) (List.Sublist.refl _)
      · cases wv
        · have hs := hset true (by simp only [Sure, true_iff]; exact ⟨by simpa using hav, by simpa using hwv⟩)
          refine g_drawH [Ent.vec (some ⟨pw, 0, none⟩) n n 4 1 ((endsOf bl c).map .bool), Ent.vec (some ⟨po, 0, none⟩) n n 38 1 (ps.map (valP n)), Ent.vec (some ⟨pal, 0, none⟩) n n 4 1 ((endsOf bl (-1)).map .bool), Ent.box p1 [nm, pa, re, .slice ba n bc] 35] mixed (hsub _) ?_
          refine h_take 0 rfl (by decide +kernel) (hsub _) ?_
          refine h_take 1 rfl (by decide +kernel) (hsub _) ?_
          refine h_take 2 rfl (by decide +kernel) (hsub _) ?_
          refine h_take 3 rfl (by decide +kernel) (hsub _) ?_
          refine h_take 4 rfl (by decide +kernel) (hsub _) ?_
          refine h_take 5 rfl (by decide +kernel) (hsub _) ?_
          refine h_take 6 rfl (by decide +kernel) (hsub _) ?_
          refine h_take 7 rfl (by decide +kernel) (hsub _) ?_
          refine h_take 8 rfl (by decide +kernel) (hsub _) ?_
          refine h_take 9 rfl (by decide +kernel) (hsub _) ?_
          refine h_takeG 10 rfl (by decide +kernel) (hsub _) ?_
          refine h_takeG 11 rfl (by decide +kernel) (hsub _) ?_
          refine h_takeG 12 rfl (by decide +kernel) (hsub _) ?_
          refine h_takeG 13 rfl (by decide +kernel) (hsub _) ?_
          refine h_takeG 14 rfl (by decide +kernel) (hsub _) ?_
          refine h_take 15 rfl (by decide +kernel) (hsub _) ?_
          refine h_take 16 rfl (by decide +kernel) (hsub _) ?_
          refine h_storeV 17 (by decide +kernel) (by decide +kernel) (hsub _) ?_
          repeat (first | refine g_then ?_ | refine g_nil ?_ | refine g_region ?_ | refine g_opS rfl ?_ | refine g_inBlock ?_ | refine g_add rfl (by omega) (by omega) ?_)
          exact g_next (b + 1) hbn (by omega) (by repeat (first | exact trivial | refine ⟨rfl, ?_⟩)) (List.Sublist.refl _)
        · have hs := hset false (by simp only [Sure, reduceCtorEq, false_iff]; intro h; exact h.2 (by simpa using hwv))
          refine g_drawH [Ent.vec (some ⟨pw, 0, none⟩) n n 4 1 ((endsOf bl c).map .bool), Ent.vec (some ⟨po, 0, none⟩) n n 38 1 (ps.map (valP n)), Ent.vec (some ⟨pal, 0, none⟩) n n 4 1 ((endsOf bl (-1)).map .bool), Ent.box p1 [nm, pa, re, .slice ba n bc] 35] mixed (hsub _) ?_
          refine h_take 0 rfl (by decide +kernel) (hsub _) ?_
          refine h_take 1 rfl (by decide +kernel) (hsub _) ?_
          refine h_take 2 rfl (by decide +kernel) (hsub _) ?_
          refine h_take 3 rfl (by decide +kernel) (hsub _) ?_
          refine h_take 4 rfl (by decide +kernel) (hsub _) ?_
          refine h_take 5 rfl (by decide +kernel) (hsub _) ?_
          refine h_take 6 rfl (by decide +kernel) (hsub _) ?_
          refine h_take 7 rfl (by decide +kernel) (hsub _) ?_
          refine h_take 8 rfl (by decide +kernel) (hsub _) ?_
          refine h_take 9 rfl (by decide +kernel) (hsub _) ?_
          refine h_takeG 10 rfl (by decide +kernel) (hsub _) ?_
          refine h_takeG 11 rfl (by decide +kernel) (hsub _) ?_
          refine h_takeG 12 rfl (by decide +kernel) (hsub _) ?_
          refine h_takeG 13 rfl (by decide +kernel) (hsub _) ?_
          refine h_takeG 14 rfl (by decide +kernel) (hsub _) ?_
          refine h_take 15 rfl (by decide +kernel) (hsub _) ?_
          refine h_take 16 rfl (by decide +kernel) (hsub _) ?_
          refine h_storeV 17 (by decide +kernel) (by decide +kernel) (hsub _) ?_
          repeat (first | refine g_then ?_ | refine g_nil ?_ | refine g_region ?_ | refine g_opS rfl ?_ | refine g_inBlock ?_ | refine g_add rfl (by omega) (by omega) ?_)
          exact g_next (b + 1) hbn (by omega) (by repeat (first | exact trivial | refine ⟨rfl, ?_⟩)) (List.Sublist.refl _)
    · have hgb : b = n := by have := h3; simp at this; omega
      repeat (first | refine g_then ?_ | refine g_nil ?_ | refine g_region ?_ | refine g_opS rfl ?_ | refine g_inBlock ?_ | refine g_add rfl (by omega) (by omega) ?_ | refine g_exit ?_ | refine g_thenExit ?_ | refine g_exitHere ?_)
      refine g_next (c + 1) hcn (by omega) (by repeat (first | exact trivial | refine ⟨rfl, ?_⟩)) ?_
      have : ps.zipIdx.map (entM n (fun i => rowTo bl n i (if i < b then c + 1 else c))) = ps.zipIdx.map (entM n (fun i => rowTo bl n i (c + 1))) := by
        apply List.map_congr_left
        intro q hq
        have hq2 : q.2 < ps.length := by
          obtain ⟨j, hj⟩ := List.getElem?_of_mem hq
          rw [List.getElem?_zipIdx] at hj
          obtain ⟨y, hy, rfl⟩ := Option.map_eq_some_iff.1 hj
          have := (List.getElem?_eq_some_iff.1 hy).1
          simpa using this
        simp only [entM]
        rw [if_pos (by omega)]
      rw [this]
      exact List.Sublist.cons _ (List.Sublist.refl _)
  · have hgc : c = n := by have := h2; simp at this; omega
    repeat (first | refine g_op rfl ?_ | refine g_then ?_ | refine g_nil ?_ | refine g_region ?_ | refine g_seq ?_ | refine g_exit ?_ | refine g_thenExit ?_ | refine g_exitHere ?_ | refine g_ret ?_)
    refine g_ret1 rfl fun w hw => ⟨(po, fps (Ent.vec (some ⟨po, 0, none⟩) n n 38 1 (ps.map (valP n)) :: ps.zipIdx.map (entM n (fun i => rowTo bl n i c))), ps), rfl, ?_, hge⟩
    have hw' : Wd NoS w0 ((Ent.vec (some ⟨po, 0, none⟩) n n 38 1 (ps.map (valP n)) :: ps.zipIdx.map (entM n (fun i => rowTo bl n i c))) ++ []) w := by
      rw [List.append_nil]
      exact hw.sub (List.Sublist.cons_cons _ (List.Sublist.cons _ (List.Sublist.cons _ (List.Sublist.refl _))))
    refine hw'.pack _ fun w2 hw2 i p hp => ⟨?_, fun j v hj => ?_⟩
    · have := hw2.vecCell (k := 0) (j := i) (v := valP n p) rfl (by rw [List.getElem?_map, hp]; rfl)
      simpa using this
    · have := hw2.vecCell (k := i + 1) (j := j) (v := .bool v) (by rw [List.getElem?_cons_succ]; exact entM_get hp _) (by
        rw [hgc, hn, rowTo_full, List.getElem?_map, hj]; rfl)
      simpa using this
end Go.Proofs.YtebajiafdkokjaaDoor

/- dom.Hang$1, turnerysame.Ints and Rows: what each returns. -/
namespace Go.Proofs.YtebajiafdkokjaaDoor
open Go Go.RowKit
attribute [local irreducible] wpListIn Code.wpIn Exit.then Exit.inBlock bodyPost wpQuiet wpAnyIn
set_option maxHeartbeats 2000000

theorem tabB_keep {po n : Nat} {ps : List Nat} {f : Nat → List Bool} {w w' : World} (h : Chg NoS w w') (ht : tabB po n ps f w) : tabB po n ps f w' := fun i p hp => ⟨cell_keep h (ht i p hp).1, fun j v hj => cell_keep h ((ht i p hp).2 j v hj)⟩
theorem hangOne_c (p8 p12 po n : Nat) (ps : List Nat) (f : Nat → List Bool) (hps : ps.length = n) (x : Int) (t c : Nat) (hx : x = t) (htn : t < n) (hcn : c < n) (v : Bool) (hv : (f t)[c]? = some v) (w0 : World) (h8 : CellsAt w0 p8 0 [.slice (some ⟨po, 0, none⟩) n n]) (h12 : CellsAt w0 p12 0 [.int .i64 c]) (ht : tabB po n ps f w0) :
    RetV Tryd.prog 52 [.int .i64 x, .pointer (some ⟨p8, 0, none⟩), .pointer (some ⟨p12, 0, none⟩)] w0 (.bool v) := by
  have hci8 : CellsIs w0 p8 0 _ := ⟨h8⟩
  have hci12 : CellsIs w0 p12 0 _ := ⟨h12⟩
  obtain ⟨p, hp⟩ : ∃ p, ps[t]? = some p := ⟨_, List.getElem?_eq_getElem (by omega)⟩
  obtain ⟨h1, h2⟩ := ht t p hp
  have hni : NatIs x t := ⟨hx⟩
  have hlt : LtIs t n := ⟨htn⟩
  have hlc : LtIs c n := ⟨hcn⟩
  have hc1 : CellIs w0 po (0 + t * 1) (.slice (some ⟨p, 0, none⟩) n n) := ⟨by rw [Nat.zero_add, Nat.mul_one]; exact h1⟩
  have hc2 : CellIs w0 p (0 + c * 1) (.bool v) := ⟨by rw [Nat.zero_add, Nat.mul_one]; exact h2 c v hv⟩
  refine ret_enter Tryd.func52 rfl Tryd.ntmps52 rfl (Wd.nil NoS w0) ?_
  repeat (first | refine g_op rfl ?_ | refine g_then ?_ | refine g_nil ?_ | refine g_region ?_ | refine g_seq ?_)
  refine g_draw mixed (by kernel_rfl) ?_
  repeat (first | refine q_op rfl ?_ | refine q_opS rfl ?_ | refine q_nil ?_)
  repeat (first | refine g_then ?_ | refine g_ret ?_)
  exact g_retV rfl rfl
theorem ints_c (a b : Value) (l m : List Int) (w0 : World) (ha : SlAt w0 a 1 l IntV) (hb : SlAt w0 b 1 m IntV) : RetV Tryd.prog 22 [a, b] w0 (.bool (decide (l = m))) := by
  obtain ⟨aa, an, ac, ab, ao, rfl, han, hanc, hanb, hac, haa, hael⟩ := ha
  obtain ⟨ba, bn, bc, bb, bo, rfl, hbn, hbnc, hbnb, hbc, hba, hbel⟩ := hb
  refine ret_enter Tryd.func22 rfl Tryd.ntmps22 rfl (Wd.nil NoS w0) ?_
  repeat (first | refine g_op rfl ?_ | refine g_then ?_ | refine g_nil ?_ | refine g_region ?_ | refine g_seq ?_)
  refine g_cond (fun h1 => ?_) (fun h1 => ?_)
  · repeat (first | refine g_then ?_ | refine g_nil ?_ | refine g_region ?_ | refine g_seq ?_ | refine g_opS rfl ?_ | refine g_ret ?_ | refine g_thenRet ?_)
    refine g_retV rfl ?_
    rw [decide_eq_false]
    rintro rfl
    simp at h1; omega
  have hlen : an = bn := by simp at h1; omega
  repeat (first | refine g_op rfl ?_ | refine g_then ?_ | refine g_nil ?_ | refine g_region ?_ | refine g_seq ?_ | refine g_block ?_ | refine g_skip ?_)
  refine g_loop (fun (i : Nat) => i ≤ an ∧ ∀ j, j < i → l[j]? = m[j]?) (fun i => [(5, .int .i64 i), (0, .slice aa an ac), (1, .slice ba bn bc)]) (fun _ => []) (fun i => an - i) 0 ⟨Nat.zero_le _, by simp⟩ (g_done (by repeat (first | exact trivial | refine ⟨rfl, ?_⟩)) (by simp)) fun i ⟨hi, hall⟩ => ?_
  repeat (first | refine g_op rfl ?_ | refine g_then ?_ | refine g_nil ?_ | refine g_region ?_ | refine g_seq ?_)
  refine g_cond (fun h2 => ?_) (fun h2 => ?_)
  · have hlt : i < an := by simpa using h2
    obtain ⟨x, hx⟩ := get_lt han hlt
    obtain ⟨y, hy⟩ := get_lt hbn (show i < bn by omega)
    have had : AddrIs aa ab ao := ⟨haa (ne_of_get hx)⟩
    have hbd : AddrIs ba bb bo := ⟨hba (ne_of_get hy)⟩
    have hli : LtIs i an := ⟨hlt⟩
    have hlj : LtIs i bn := ⟨by omega⟩
    obtain ⟨cs, hcs, rfl, _⟩ := hael i x hx
    obtain ⟨cs2, hcs2, rfl, _⟩ := hbel i y hy
    have hci : CellsIs w0 ab (ao + i * 1) _ := ⟨hcs⟩
    have hcj : CellsIs w0 bb (bo + i * 1) _ := ⟨hcs2⟩
    repeat (first | refine g_then ?_ | refine g_seq ?_ | refine g_block ?_ | refine g_skip ?_)
    refine g_draw mixed (by kernel_rfl) ?_
    repeat (first | refine q_op rfl ?_ | refine q_nil ?_)
    repeat (refine g_then ?_)
    refine g_cond (fun h3 => ?_) (fun h3 => ?_)
    · repeat (first | refine g_op rfl ?_ | refine g_then ?_ | refine g_nil ?_ | refine g_region ?_ | refine g_seq ?_ | refine g_ret ?_ | refine g_thenRet ?_ | refine g_blockRet ?_)
      refine g_retV rfl ?_
      rw [decide_eq_false]
      rintro rfl
      rw [hx] at hy
      simp only [Option.some.injEq] at hy
      simp [hy] at h3
    · have hxy : x = y := by simpa using h3
      repeat (first | refine g_op rfl ?_ | refine g_then ?_ | refine g_nil ?_ | refine g_region ?_ | refine g_opS rfl ?_ | refine g_inBlock ?_ | refine g_skip ?_ | refine g_add rfl (by omega) (by omega) ?_)
      refine g_next (i + 1) ⟨hlt, fun j hj => ?_⟩ (by omega) (by repeat (first | exact trivial | refine ⟨rfl, ?_⟩)) (by simp)
      by_cases hji : j = i
      · subst hji; rw [hx, hy, hxy]
      · exact hall j (by omega)
  · have hge : i = an := by have := h2; simp at this; omega
    repeat (first | refine g_op rfl ?_ | refine g_then ?_ | refine g_nil ?_ | refine g_region ?_ | refine g_seq ?_ | refine g_exit ?_ | refine g_thenExit ?_ | refine g_exitHere ?_ | refine g_ret ?_)
    refine g_retV rfl ?_
    rw [decide_eq_true]
    apply List.ext_getElem?
    intro j
    by_cases hj : j < an
    · exact hall j (by omega)
    · rw [List.getElem?_eq_none (by omega), List.getElem?_eq_none (by omega)]
theorem rows_c (a b : Value) (l m : List (List Int)) (w0 : World) (ha : SlAt w0 a 1 l RowV) (hb : SlAt w0 b 1 m RowV) : RetV Tryd.prog 25 [a, b] w0 (.bool (decide (l = m))) := by
  obtain ⟨aa, an, ac, ab, ao, rfl, han, hanc, hanb, hac, haa, hael⟩ := ha
  obtain ⟨ba, bn, bc, bb, bo, rfl, hbn, hbnc, hbnb, hbc, hba, hbel⟩ := hb
  refine ret_enter Tryd.func25 rfl Tryd.ntmps25 rfl (Wd.nil NoS w0) ?_
  repeat (first | refine g_op rfl ?_ | refine g_then ?_ | refine g_nil ?_ | refine g_region ?_ | refine g_seq ?_)
  refine g_cond (fun h1 => ?_) (fun h1 => ?_)
  · repeat (first | refine g_then ?_ | refine g_nil ?_ | refine g_region ?_ | refine g_seq ?_ | refine g_opS rfl ?_ | refine g_ret ?_ | refine g_thenRet ?_)
    refine g_retV rfl ?_
    rw [decide_eq_false]
    rintro rfl
    simp at h1; omega
  have hlen : an = bn := by simp at h1; omega
  repeat (first | refine g_op rfl ?_ | refine g_then ?_ | refine g_nil ?_ | refine g_region ?_ | refine g_seq ?_ | refine g_block ?_ | refine g_skip ?_)
  refine g_loop (fun (i : Nat) => i ≤ an ∧ ∀ j, j < i → l[j]? = m[j]?) (fun i => [(5, .int .i64 i), (0, .slice aa an ac), (1, .slice ba bn bc)]) (fun _ => []) (fun i => an - i) 0 ⟨Nat.zero_le _, by simp⟩ (g_done (by repeat (first | exact trivial | refine ⟨rfl, ?_⟩)) (by simp)) fun i ⟨hi, hall⟩ => ?_
  repeat (first | refine g_op rfl ?_ | refine g_then ?_ | refine g_nil ?_ | refine g_region ?_ | refine g_seq ?_)
  refine g_cond (fun h2 => ?_) (fun h2 => ?_)
  · have hlt : i < an := by simpa using h2
    obtain ⟨x, hx⟩ := get_lt han hlt
    obtain ⟨y, hy⟩ := get_lt hbn (show i < bn by omega)
    have had : AddrIs aa ab ao := ⟨haa (ne_of_get hx)⟩
    have hbd : AddrIs ba bb bo := ⟨hba (ne_of_get hy)⟩
    have hli : LtIs i an := ⟨hlt⟩
    have hlj : LtIs i bn := ⟨by omega⟩
    obtain ⟨cs, hcs, v, rfl, hv⟩ := hael i x hx
    obtain ⟨cs2, hcs2, u, rfl, hu⟩ := hbel i y hy
    have hv0 := hv
    have hu0 := hu
    obtain ⟨_, _, _, _, _, rfl, _⟩ := hv
    obtain ⟨_, _, _, _, _, rfl, _⟩ := hu
    have hci : CellsIs w0 ab (ao + i * 1) _ := ⟨hcs⟩
    have hcj : CellsIs w0 bb (bo + i * 1) _ := ⟨hcs2⟩
    repeat (first | refine g_then ?_ | refine g_seq ?_ | refine g_block ?_ | refine g_skip ?_)
    refine g_draw mixed (by kernel_rfl) ?_
    repeat (refine q_op rfl ?_)
    refine q_call rfl (fun w hw => ints_c _ _ x y w (hv0.keep keeps_int hw.chg) (hu0.keep keeps_int hw.chg)) ?_
    repeat (first | refine q_op rfl ?_ | refine q_nil ?_)
    repeat (refine g_then ?_)
    refine g_cond (fun h3 => ?_) (fun h3 => ?_)
    · repeat (first | refine g_op rfl ?_ | refine g_then ?_ | refine g_nil ?_ | refine g_region ?_ | refine g_seq ?_ | refine g_ret ?_ | refine g_thenRet ?_ | refine g_blockRet ?_)
      refine g_retV rfl ?_
      rw [decide_eq_false]
      rintro rfl
      rw [hx] at hy
      simp only [Option.some.injEq] at hy
      simp [hy] at h3
    · have hxy : x = y := by simpa using h3
      repeat (first | refine g_op rfl ?_ | refine g_then ?_ | refine g_nil ?_ | refine g_region ?_ | refine g_opS rfl ?_ | refine g_inBlock ?_ | refine g_skip ?_ | refine g_add rfl (by omega) (by omega) ?_)
      refine g_next (i + 1) ⟨hlt, fun j hj => ?_⟩ (by omega) (by repeat (first | exact trivial | refine ⟨rfl, ?_⟩)) (by simp)
      by_cases hji : j = i
      · subst hji; rw [hx, hy, hxy]
      · exact hall j (by omega)
  · have hge : i = an := by have := h2; simp at this; omega
    repeat (first | refine g_op rfl ?_ | refine g_then ?_ | refine g_nil ?_ | refine g_region ?_ | refine g_seq ?_ | refine g_exit ?_ | refine g_thenExit ?_ | refine g_exitHere ?_ | refine g_ret ?_)
    refine g_retV rfl ?_
    rw [decide_eq_true]
    apply List.ext_getElem?
    intro j
    by_cases hj : j < an
    · exact hall j (by omega)
    · rw [List.getElem?_eq_none (by omega), List.getElem?_eq_none (by omega)]
end Go.Proofs.YtebajiafdkokjaaDoor

/- dom.Hang: what it returns. -/
namespace Go.Proofs.YtebajiafdkokjaaDoor
open Go Go.RowKit
attribute [local irreducible] wpListIn Code.wpIn Exit.then Exit.inBlock bodyPost wpQuiet wpAnyIn
set_option maxHeartbeats 4000000

theorem hang_bad (u : LUnit) (hl : light u) (k : Int) (hk : inI k) (hbad : (askedL u k).1 ≠ 0) (g fs : Value) (w0 : World) (hg : SlAt w0 g 3 u.globals GlobalV) (hf : SlAt w0 fs 4 u.funcs FuncV) (hways : CellsAt w0 0 0 waysC) :
    RetV Tryd.prog 24 [.agg #[g, fs], .int .i64 k] w0 (.tuple #[.slice none 0 0, .agg #[.int .i64 (askedL u k).1, .int .i64 (askedL u k).2]]) := by
  have hg0 := hg
  have hf0 := hf
  obtain ⟨ga, gn, gc, gb, go, rfl, _⟩ := hg
  obtain ⟨fa, fn, fc, fb, fo, rfl, _⟩ := hf
  refine ret_enter Tryd.func24 rfl Tryd.ntmps24 rfl (Wd.nil NoS w0) ?_
  repeat (first | refine g_op rfl ?_ | refine g_then ?_ | refine g_nil ?_ | refine g_region ?_ | refine g_seq ?_ | refine g_box rfl fun _ _ => ?_ | refine g_alloc rfl fun _ _ => ?_)
  rename_i p2 _ p5 _
  refine g_callV rfl (fun w hw => func_bad u hl k hk hbad _ _ w (hg0.keep keeps_global hw.chg) (hf0.keep keeps_func hw.chg) (hways.keep hw.chg)) ?_
  unfold zeroFn
  repeat (first | refine g_op rfl ?_ | refine g_then ?_ | refine g_nil ?_ | refine g_region ?_ | refine g_seq ?_ | refine g_alloc rfl fun _ _ => ?_ | refine g_storeAgg ?_)
  rename_i p6 _ p7 _
  refine g_cond (fun h1 => ?_) (fun h1 => ?_)
  · repeat (refine g_seq ?_)
    refine g_drawW [(4, .slice none 0 0), (5, .pointer (some ⟨p5, 0, none⟩))] [Ent.box p5 [.int .i64 (askedL u k).1, .int .i64 (askedL u k).2] 29] mixed ?_ ?_
    · repeat' (first | refine g_any0 (by decide +kernel) ?_ | refine g_any (by decide +kernel) ?_ | refine any_nil | refine any_skip (by decide +kernel) ?_ | refine any_cons ?_ ?_ | refine g_op rfl ?_ | refine g_then ?_ | refine g_nil ?_ | refine g_opS rfl ?_ | refine g_storeAgg ?_)
      all_goals exact g_done (by repeat (first | exact trivial | refine ⟨rfl, ?_⟩)) (by simp)
    · repeat (first | refine g_then ?_ | refine g_ret ?_ | refine g_thenRet ?_)
      exact g_retTC rfl fun _ hw => ⟨rfl, hw.chg⟩
  · exact absurd h1 (by simp [hbad])
theorem hang_ok (u : LUnit) (hl : light u) (k : Nat) (hgood : (askedL u k).1 = 0) (X : LFunc) (hX : u.funcs[k]? = some X) (hok : GoodB X.blocks) (g fs : Value) (w0 : World) (hg : SlAt w0 g 3 u.globals GlobalV) (hf : SlAt w0 fs 4 u.funcs FuncV) (hways : CellsAt w0 0 0 waysC) :
    Ret Tryd.prog 24 [.agg #[g, fs], .int .i64 k] w0 fun v w' => ∃ x : Nat × List Row, v = .tuple #[.slice (some ⟨x.1, 0, none⟩) X.blocks.length X.blocks.length, .agg #[.int .i64 0, .int .i64 0]] ∧ Wd NoS w0 (Ent.vec (some ⟨x.1, 0, none⟩) X.blocks.length X.blocks.length 27 1 (x.2.map valR) :: x.2.map entR) w' ∧ (x.2.map (·.l) = gridL (Hangs X.blocks) X.blocks.length ∧ x.2.length = X.blocks.length) := by
  classical
  have hg0 := hg
  have hf0 := hf
  obtain ⟨ga, gn, gc, gb, go, rfl, _⟩ := hg
  obtain ⟨fa, fn, fc, fb, fo, rfl, _⟩ := hf
  have hlx := hl.2 X (List.mem_of_getElem? hX)
  have h24 := hlx.1
  obtain ⟨bv, hbv, hfc⟩ := func_ok u hl k hgood _ _ X hX w0 hg0 hf0 hways
  have hbv0 := hbv
  obtain ⟨ba, n, bc, bb, bo', rfl, hn, hnc, hnb, hbc, hba, hel⟩ := hbv
  refine ret_enter Tryd.func24 rfl Tryd.ntmps24 rfl (Wd.nil NoS w0) ?_
  repeat (first | refine g_op rfl ?_ | refine g_then ?_ | refine g_nil ?_ | refine g_region ?_ | refine g_seq ?_ | refine g_box rfl fun _ _ => ?_ | refine g_alloc rfl fun _ _ => ?_)
  rename_i p2 _ p5 _
  refine g_callV rfl (fun w hw => hfc w hw.chg) ?_
  repeat (first | refine g_op rfl ?_ | refine g_then ?_ | refine g_nil ?_ | refine g_region ?_ | refine g_seq ?_ | refine g_alloc rfl fun _ _ => ?_ | refine g_storeAgg ?_ | refine g_skip ?_ | refine g_condF ?_)
  rename_i p6 _ p7 _
  refine g_callE (val := fun x : Nat × (Nat → Prop) × List Nat => .slice (some ⟨x.1, 0, none⟩) X.blocks.length X.blocks.length) (E := fun x => [⟨x.2.1, tabB x.1 X.blocks.length x.2.2 (sureRow X.blocks)⟩]) (φ := fun x => x.2.2.length = X.blocks.length) rfl (fun w hw => sure_c _ _ _ X.blocks _ w (hbv0.keep keeps_block hw.chg) (by omega) hok) fun x hps => ?_
  obtain ⟨po, fp, ps⟩ := x
  simp only at hps
  rw [← hn] at hps ⊢
  simp only [List.cons_append, List.nil_append]
  repeat (first | refine g_op rfl ?_ | refine g_then ?_ | refine g_nil ?_ | refine g_region ?_ | refine g_seq ?_ | refine g_store ?_ | refine g_alloc rfl fun _ _ => ?_ | refine g_block ?_ | refine g_make rfl (by omega) (by omega) fun _ _ => ?_)
  rename_i p8 _ bo _
  refine g_nilVecs 3 1 n ?_
  rw [show (List.replicate n (Value.slice none 0 0)) = (List.replicate n (⟨none, 0, []⟩ : Row)).map valR by simp [valR], show (List.replicate n (Ent.vec none 0 0 3 1 [])) = (List.replicate n (⟨none, 0, []⟩ : Row)).map entR by simp [entR]]
  simp only [List.cons_append, List.nil_append]
  refine g_loop (fun (x : Nat × List Row) => x.1 ≤ n ∧ x.2.length = n ∧ ∀ i r, x.2[i]? = some r → r.l = gridTo (Hangs X.blocks) n x.1 0 i) (fun x => [(33, .int .i64 x.1), (31, .slice ba n bc), (32, .int .i64 n), (9, .slice (some ⟨bo, 0, none⟩) n n), (8, .pointer (some ⟨p8, 0, none⟩)), (6, .pointer (some ⟨p6, 0, none⟩)), (7, .pointer (some ⟨p7, 0, none⟩)), (5, .pointer (some ⟨p5, 0, none⟩))])
    (fun x => Ent.vec (some ⟨bo, 0, none⟩) n n 27 1 (x.2.map valR) :: Ent.box p8 [.slice (some ⟨po, 0, none⟩) n n] 71 :: ⟨fp, tabB po n ps (sureRow X.blocks)⟩ :: Ent.box p7 [.int .i64 0, .int .i64 0] 29 :: Ent.box p6 [.string X.name, .int .i64 X.params, .int .i64 X.regs, .slice ba n bc] 35 :: Ent.box p5 [.int .i64 0, .int .i64 0] 29 :: x.2.map entR) (fun x => n - x.1) (0, List.replicate n ⟨none, 0, []⟩)
    ⟨Nat.zero_le _, by simp, grid_new n⟩ (g_done (by repeat (first | exact trivial | refine ⟨rfl, ?_⟩)) (by simp)) fun x ⟨hi, hrl, hrows⟩ => ?_
  obtain ⟨b, rs⟩ := x
  simp only at hi hrl hrows ⊢
  repeat (first | refine g_op rfl ?_ | refine g_then ?_ | refine g_nil ?_ | refine g_region ?_ | refine g_seq ?_)
  refine g_cond (fun h1 => ?_) (fun h1 => ?_)
  · have hlt : b < n := by simpa using h1
    obtain ⟨B, hB⟩ := get_lt hn hlt
    have had : AddrIs ba bb bo' := ⟨hba (ne_of_get hB)⟩
    have hli : LtIs b n := ⟨hlt⟩
    obtain ⟨cs, hcs, pv', lv, tv, rfl, _, _, hphis, hlist, ht⟩ := hel b B hB
    obtain ⟨pa', pn, pc, _, _, rfl, _⟩ := hphis
    obtain ⟨la, ln, lc, _, _, rfl, _⟩ := hlist
    have ht0 := ht
    obtain ⟨ta, tn, tc, tb, to', rfl, htn, htnc, htnb, htc, hta, htel⟩ := ht
    have hci : CellsIs w0 bb (bo' + b * 6) _ := ⟨hcs⟩
    have hBok := hok B (List.mem_of_getElem? hB)
    repeat (first | refine g_op rfl ?_ | refine g_then ?_ | refine g_nil ?_ | refine g_region ?_ | refine g_seq ?_ | refine g_alloc rfl fun _ _ => ?_ | refine g_storeAgg ?_ | refine g_block ?_ | refine g_skip ?_)
    rename_i p11 _
    refine g_loop (fun (x : Nat × List Row) => x.1 ≤ n ∧ x.2.length = n ∧ ∀ i r, x.2[i]? = some r → r.l = gridTo (Hangs X.blocks) n b x.1 i) (fun x => [(41, .int .i64 x.1), (40, .int .i64 n), (10, .int .i64 b), (11, .pointer (some ⟨p11, 0, none⟩)), (33, .int .i64 b), (31, .slice ba n bc), (32, .int .i64 n), (9, .slice (some ⟨bo, 0, none⟩) n n), (8, .pointer (some ⟨p8, 0, none⟩)), (6, .pointer (some ⟨p6, 0, none⟩)), (7, .pointer (some ⟨p7, 0, none⟩)), (5, .pointer (some ⟨p5, 0, none⟩))])
      (fun x => Ent.box p11 [.slice pa' pn pc, .slice la ln lc, .int .i64 B.kind, .bool B.on.reg, .int .i64 B.on.n, .slice ta tn tc] 65 :: Ent.vec (some ⟨bo, 0, none⟩) n n 27 1 (x.2.map valR) :: Ent.box p8 [.slice (some ⟨po, 0, none⟩) n n] 71 :: ⟨fp, tabB po n ps (sureRow X.blocks)⟩ :: Ent.box p7 [.int .i64 0, .int .i64 0] 29 :: Ent.box p6 [.string X.name, .int .i64 X.params, .int .i64 X.regs, .slice ba n bc] 35 :: Ent.box p5 [.int .i64 0, .int .i64 0] 29 :: x.2.map entR) (fun x => n - x.1) (0, rs)
      ⟨Nat.zero_le _, hrl, hrows⟩ (g_done (by repeat (first | exact trivial | refine ⟨rfl, ?_⟩)) (List.Sublist.refl _)) fun x ⟨hj, hrl', hrows'⟩ => ?_
    obtain ⟨c, rs'⟩ := x
    simp only at hj hrl' hrows' ⊢
    repeat (first | refine g_op rfl ?_ | refine g_then ?_ | refine g_nil ?_ | refine g_region ?_ | refine g_seq ?_)
    refine g_cond (fun h2 => ?_) (fun h2 => ?_)
    · have hclt : c < n := by simpa using h2
      repeat (first | refine g_op rfl ?_ | refine g_then ?_ | refine g_nil ?_ | refine g_region ?_ | refine g_seq ?_ | refine g_store ?_ | refine g_alloc rfl fun _ _ => ?_ | refine g_block ?_ | refine g_skip ?_)
      rename_i p12 _
      refine g_callV rfl (fun w hw => containsFI_c (f := 52) [.pointer (some ⟨p8, 0, none⟩), .pointer (some ⟨p12, 0, none⟩)] (fun t => (sureRow X.blocks t.toNat)[c]?.getD false) _ B.to w (ht0.keep keeps_int hw.chg) fun w1 hw1 t ht => ?_) ?_
      · have htt := hBok.2 t ht
        obtain ⟨v, hv⟩ : ∃ v, (sureRow X.blocks t.toNat)[c]? = some v := ⟨_, sureRow_get (by omega)⟩
        rw [hv]
        exact hangOne_c p8 p12 po n ps (sureRow X.blocks) hps t t.toNat c (by omega) (by omega) hclt v hv w1 ((hw.boxCells p8).keep hw1) ((hw.boxCells p12).keep hw1) (tabB_keep hw1 (hw.get (k := 4) rfl))
      have hon : (B.to.any fun t => (sureRow X.blocks t.toNat)[c]?.getD false) = true ↔ ∃ t ∈ toOf X.blocks b, Sure X.blocks t.toNat c := by
        rw [List.any_eq_true, toOf_get hB]
        constructor
        · rintro ⟨t, ht, h⟩
          rw [sureRow_get (by omega)] at h
          exact ⟨t, ht, by simpa using h⟩
        · rintro ⟨t, ht, h⟩
          refine ⟨t, ht, ?_⟩
          rw [sureRow_get (by omega)]
          simpa using h
      generalize (B.to.any fun t => (sureRow X.blocks t.toNat)[c]?.getD false) = on at hon
      obtain ⟨pb, hpb⟩ : ∃ pb, ps[b]? = some pb := ⟨_, List.getElem?_eq_getElem (by omega)⟩
      obtain ⟨sv, hsv⟩ : ∃ sv, (sureRow X.blocks b)[c]? = some sv := ⟨_, sureRow_get (by omega)⟩
      have hlc : LtIs c n := ⟨hclt⟩
      have hpk1 : PackCell (tabB po n ps (sureRow X.blocks)) po (0 + b * 1) (.slice (some ⟨pb, 0, none⟩) n n) := ⟨fun w hF => by have := (hF b pb hpb).1; simpa [valP] using this⟩
      have hpk2 : PackCell (tabB po n ps (sureRow X.blocks)) pb (0 + c * 1) (.bool sv) := ⟨fun w hF => by have := (hF b pb hpb).2 c sv hsv; simpa using this⟩
      rw [sureRow_get (by omega)] at hsv
      simp only [Option.some.injEq] at hsv
      have hH : Hangs X.blocks b c ↔ (on && (decide ((c : Int) = b) || !sv)) = true := by
        simp only [Hangs, Bool.and_eq_true, Bool.or_eq_true, decide_eq_true_eq, hon, Bool.not_eq_true']
        rw [← hsv, decide_eq_false_iff_not]
        constructor
        · rintro ⟨h1, h2⟩; exact ⟨h1, h2.imp (fun h => by omega) id⟩
        · rintro ⟨h1, h2⟩; exact ⟨h1, h2.imp (fun h => by omega) id⟩
      repeat (first | refine g_op rfl ?_ | refine g_then ?_ | refine g_nil ?_ | refine g_seq ?_)
      refine g_mid ((64, .bool (on && (decide ((c : Int) = b) || !sv))) :: [(12, .pointer (some ⟨p12, 0, none⟩)), (41, .int .i64 c), (40, .int .i64 n), (10, .int .i64 b), (11, .pointer (some ⟨p11, 0, none⟩)), (33, .int .i64 b), (31, .slice ba n bc), (32, .int .i64 n), (9, .slice (some ⟨bo, 0, none⟩) n n), (8, .pointer (some ⟨p8, 0, none⟩)), (6, .pointer (some ⟨p6, 0, none⟩)), (7, .pointer (some ⟨p7, 0, none⟩)), (5, .pointer (some ⟨p5, 0, none⟩))]) (Ent.box p12 [.int .i64 c] 3 :: Ent.box p11 [.slice pa' pn pc, .slice la ln lc, .int .i64 B.kind, .bool B.on.reg, .int .i64 B.on.n, .slice ta tn tc] 65 :: Ent.vec (some ⟨bo, 0, none⟩) n n 27 1 (rs'.map valR) :: Ent.box p8 [.slice (some ⟨po, 0, none⟩) n n] 71 :: ⟨fp, tabB po n ps (sureRow X.blocks)⟩ :: Ent.box p7 [.int .i64 0, .int .i64 0] 29 :: Ent.box p6 [.string X.name, .int .i64 X.params, .int .i64 X.regs, .slice ba n bc] 35 :: Ent.box p5 [.int .i64 0, .int .i64 0] 29 :: rs'.map entR) ?_ ?_
      · cases on
        · refine g_draw mixed (by kernel_rfl) ?_
          repeat (first | refine q_op rfl ?_ | refine q_pass rfl ?_ | refine q_passU rfl ?_ | refine q_nil ?_)
          repeat (refine g_then ?_)
          exact g_done (by repeat (first | exact trivial | refine ⟨rfl, ?_⟩)) (List.Sublist.refl _)
        · refine g_draw mixed (by kernel_rfl) ?_
          repeat (first | refine q_op rfl ?_ | refine q_open ?_)
          generalize decide ((c : Int) = b) = kb
          cases kb
          · repeat (first | refine q_op rfl ?_ | refine q_open ?_ | refine q_nil ?_)
            repeat (refine g_then ?_)
            exact g_done (by repeat (first | exact trivial | refine ⟨rfl, ?_⟩)) (List.Sublist.refl _)
          · repeat (first | refine q_op rfl ?_ | refine q_open ?_ | refine q_pass rfl ?_ | refine q_nil ?_)
            repeat (refine g_then ?_)
            exact g_done (by repeat (first | exact trivial | refine ⟨rfl, ?_⟩)) (List.Sublist.refl _)
      generalize (on && (decide ((c : Int) = b) || !sv)) = o at hH
      cases o
      · repeat (first | refine g_then ?_ | refine g_nil ?_ | refine g_region ?_ | refine g_opS rfl ?_ | refine g_inBlock ?_ | refine g_skip ?_ | refine g_condF ?_ | refine g_add rfl (by omega) (by omega) ?_)
        exact g_next (c + 1, rs') ⟨hclt, hrl', grid_pass hrows' (fun h => by simpa using hH.1 h)⟩ (by simp only; omega) (by repeat (first | exact trivial | refine ⟨rfl, ?_⟩)) (List.Sublist.cons _ (List.Sublist.refl _))
      · have hs := hH.2 rfl
        obtain ⟨r, hr⟩ : ∃ r, rs'[b]? = some r := ⟨_, List.getElem?_eq_getElem (by omega)⟩
        have hrb := gridTo_bd (Hangs X.blocks) (n := n) (by omega) b c b (by omega)
        rw [← hrows' b r hr] at hrb
        have hbl : b < rs'.length := by omega
        have hxa : XAt (rs'.map valR) (b * 1) (.slice r.a r.l.length r.c) := ⟨by simp [hr, valR]⟩
        repeat (refine g_condT ?_)
        refine g_drawE (fun z : Option Addr × Nat => [(12, .pointer (some ⟨p12, 0, none⟩)), (41, .int .i64 c), (40, .int .i64 n), (10, .int .i64 b), (11, .pointer (some ⟨p11, 0, none⟩)), (33, .int .i64 b), (31, .slice ba n bc), (32, .int .i64 n), (9, .slice (some ⟨bo, 0, none⟩) n n), (8, .pointer (some ⟨p8, 0, none⟩)), (6, .pointer (some ⟨p6, 0, none⟩)), (7, .pointer (some ⟨p7, 0, none⟩)), (5, .pointer (some ⟨p5, 0, none⟩))]) (fun z => Ent.box p11 [.slice pa' pn pc, .slice la ln lc, .int .i64 B.kind, .bool B.on.reg, .int .i64 B.on.n, .slice ta tn tc] 65 :: Ent.vec (some ⟨bo, 0, none⟩) n n 27 1 ((rs'.set b ⟨z.1, z.2, r.l ++ [(c : Int)]⟩).map valR) :: Ent.box p8 [.slice (some ⟨po, 0, none⟩) n n] 71 :: ⟨fp, tabB po n ps (sureRow X.blocks)⟩ :: Ent.box p7 [.int .i64 0, .int .i64 0] 29 :: Ent.box p6 [.string X.name, .int .i64 X.params, .int .i64 X.regs, .slice ba n bc] 35 :: Ent.box p5 [.int .i64 0, .int .i64 0] 29 :: (rs'.set b ⟨z.1, z.2, r.l ++ [(c : Int)]⟩).map entR) mixed ?_ fun z => ?_
        · repeat' (first | refine g_take 0 rfl (by decide +kernel) ?_ | refine g_take 1 rfl (by decide +kernel) ?_ | refine g_take 2 rfl (by decide +kernel) ?_ | refine g_take 3 rfl (by decide +kernel) ?_ | refine g_take 4 rfl (by decide +kernel) ?_ | refine g_any (by decide +kernel) ?_ | refine any_nil | refine any_skip (by decide +kernel) ?_ | refine any_cons ?_ ?_ | refine g_op rfl ?_ | refine g_then ?_ | refine g_nil ?_ | refine g_build1 rfl rfl fun _ _ => ?_)
          all_goals
            rename_i bt _
            refine g_appendAt (b + 9) (xs := r.l.map (.int .i64)) (e := 3) (by simp [hr, entR]) rfl rfl (by omega) (by omega) fun a' c' => ?_
            refine g_eqH (H1 := Ent.vec (some ⟨bt, 0, none⟩) 1 1 3 1 [.int .i64 c] :: Ent.box p12 [.int .i64 c] 3 :: Ent.box p11 [.slice pa' pn pc, .slice la ln lc, .int .i64 B.kind, .bool B.on.reg, .int .i64 B.on.n, .slice ta tn tc] 65 :: Ent.vec (some ⟨bo, 0, none⟩) n n 27 1 (rs'.map valR) :: Ent.box p8 [.slice (some ⟨po, 0, none⟩) n n] 71 :: ⟨fp, tabB po n ps (sureRow X.blocks)⟩ :: Ent.box p7 [.int .i64 0, .int .i64 0] 29 :: Ent.box p6 [.string X.name, .int .i64 X.params, .int .i64 X.regs, .slice ba n bc] 35 :: Ent.box p5 [.int .i64 0, .int .i64 0] 29 :: (rs'.set b ⟨a', c', r.l ++ [(c : Int)]⟩).map entR) (by simp [entR, List.map_set]) ?_
            have hxs : XSet (rs'.map valR) (b * 1) (.slice a' (r.l.length + 1) c') ((rs'.set b ⟨a', c', r.l ++ [(c : Int)]⟩).map valR) := ⟨by simp [valR, List.map_set], by simpa using hbl⟩
            repeat' (first | refine g_any0 (by decide +kernel) ?_ | refine g_any (by decide +kernel) ?_ | refine any_nil | refine any_skip (by decide +kernel) ?_ | refine any_cons ?_ ?_ | refine g_op rfl ?_ | refine g_then ?_ | refine g_nil ?_ | refine g_storeV ?_)
            exact g_doneE (a', c') (by repeat (first | exact trivial | refine ⟨rfl, ?_⟩)) (List.Sublist.cons _ (List.Sublist.cons _ (List.Sublist.refl _)))
        · repeat (first | refine g_then ?_ | refine g_nil ?_ | refine g_region ?_ | refine g_opS rfl ?_ | refine g_inBlock ?_ | refine g_add rfl (by omega) (by omega) ?_)
          exact g_next (c + 1, rs'.set b ⟨z.1, z.2, r.l ++ [(c : Int)]⟩) ⟨hclt, by simpa using hrl', grid_add hrows' hr hs⟩ (by simp only; omega) (by repeat (first | exact trivial | refine ⟨rfl, ?_⟩)) (List.Sublist.refl _)
    · have hge : c = n := by have := h2; simp at this; omega
      repeat (first | refine g_then ?_ | refine g_nil ?_ | refine g_region ?_ | refine g_opS rfl ?_ | refine g_inBlock ?_ | refine g_add rfl (by omega) (by omega) ?_ | refine g_exit ?_ | refine g_thenExit ?_ | refine g_exitHere ?_)
      refine g_next (b + 1, rs') ⟨hlt, hrl', fun i q hq => ?_⟩ (by simp only; omega) (by repeat (first | exact trivial | refine ⟨rfl, ?_⟩)) (List.Sublist.cons _ (List.Sublist.refl _))
      rw [gridTo_next, hrows' i q hq, hge]
  · have hge : b = n := by have := h1; simp at this; omega
    repeat (first | refine g_then ?_ | refine g_seq ?_ | refine g_exit ?_ | refine g_thenExit ?_ | refine g_exitHere ?_)
    refine g_drawW [(4, .slice (some ⟨bo, 0, none⟩) n n), (5, .pointer (some ⟨p5, 0, none⟩))] (Ent.vec (some ⟨bo, 0, none⟩) n n 27 1 (rs.map valR) :: Ent.box p8 [.slice (some ⟨po, 0, none⟩) n n] 71 :: ⟨fp, tabB po n ps (sureRow X.blocks)⟩ :: Ent.box p7 [.int .i64 0, .int .i64 0] 29 :: Ent.box p6 [.string X.name, .int .i64 X.params, .int .i64 X.regs, .slice ba n bc] 35 :: Ent.box p5 [.int .i64 0, .int .i64 0] 29 :: rs.map entR) mixed ?_ ?_
    · repeat' (first | refine g_any0 (by decide +kernel) ?_ | refine g_any (by decide +kernel) ?_ | refine any_nil | refine any_skip (by decide +kernel) ?_ | refine any_cons ?_ ?_ | refine g_op rfl ?_ | refine g_then ?_ | refine g_nil ?_ | refine g_storeAgg ?_)
      all_goals exact g_done (by repeat (first | exact trivial | refine ⟨rfl, ?_⟩)) (List.Sublist.refl _)
    · repeat (first | refine g_then ?_ | refine g_ret ?_)
      refine g_retTC rfl fun w hw => ⟨(bo, rs), rfl, ?_, ?_, hrl⟩
      · exact hw.sub (List.Sublist.cons_cons _ (List.Sublist.cons _ (List.Sublist.cons _ (List.Sublist.cons _ (List.Sublist.cons _ (List.Sublist.cons _ (List.Sublist.refl _)))))))
      · exact gridTo_all hrl fun i r hr => by rw [hrows i r hr, hge]
end Go.Proofs.YtebajiafdkokjaaDoor

/- turneryref3.Hang: what it returns. -/
namespace Go.Proofs.YtebajiafdkokjaaDoor
open Go Go.RowKit
attribute [local irreducible] wpListIn Code.wpIn Exit.then Exit.inBlock bodyPost wpQuiet wpAnyIn
set_option maxHeartbeats 4000000

theorem sureTo_mem {bl : List LBlock} {b c n : Nat} : c ∈ sureTo bl b n ↔ c < n ∧ Sure bl b c := by
  classical
  simp [sureTo]
theorem tableL_row {bl : List LBlock} {rs : List Row} (h : rs.map (·.l) = tableL bl) {t : Nat} (ht : t < bl.length) : ∃ r, rs[t]? = some r ∧ r.l = (sureTo bl t bl.length).map fun x : Nat => (x : Int) := by
  have h1 : (rs.map (·.l))[t]? = some ((sureTo bl t bl.length).map fun x : Nat => (x : Int)) := by
    rw [h, tableL, List.getElem?_map, List.getElem?_range ht]; rfl
  rw [List.getElem?_map] at h1
  obtain ⟨r, hr, hl⟩ := Option.map_eq_some_iff.1 h1
  exact ⟨r, hr, hl⟩
theorem tableL_len {bl : List LBlock} {rs : List Row} (h : rs.map (·.l) = tableL bl) : rs.length = bl.length := by
  have := congrArg List.length h
  simpa [tableL] using this
theorem refHang_c (nm pa re : Value) (bl : List LBlock) (bs : Value) (w0 : World) (hbs : SlAt w0 bs 6 bl BlockV) (hlen : bl.length ≤ 100) (hok : GoodB bl) :
    Ret Tryd.prog 26 [.agg #[nm, pa, re, bs]] w0 fun v w' => ∃ x : Nat × List Row, v = .slice (some ⟨x.1, 0, none⟩) bl.length bl.length ∧ Wd NoS w0 (Ent.vec (some ⟨x.1, 0, none⟩) bl.length bl.length 27 1 (x.2.map valR) :: x.2.map entR) w' ∧ (x.2.map (·.l) = gridL (Hangs bl) bl.length ∧ x.2.length = bl.length) := by
  classical
  have hbs0 := hbs
  obtain ⟨ba, n, bc, bb, bo', rfl, hn, hnc, hnb, hbc, hba, hel⟩ := hbs
  refine ret_enter Tryd.func26 rfl Tryd.ntmps26 rfl (Wd.nil NoS w0) ?_
  repeat (first | refine g_op rfl ?_ | refine g_then ?_ | refine g_nil ?_ | refine g_region ?_ | refine g_seq ?_ | refine g_box rfl fun _ _ => ?_)
  rename_i p1 _
  refine g_callE (val := fun x : Nat × (Nat → Prop) × List Row => .slice (some ⟨x.1, 0, none⟩) bl.length bl.length) (E := fun x => [⟨x.2.1, tabF x.1 x.2.2⟩]) (φ := fun x => x.2.2.map (·.l) = tableL bl) rfl (fun w hw => sureTable_c _ _ _ bl _ w (hbs0.keep keeps_block hw.chg) (by omega) hok) fun x hps => ?_
  obtain ⟨to, fp, ts⟩ := x
  simp only at hps
  have htl := tableL_len hps
  rw [← hn]
  rw [← hn] at htl
  simp only [List.cons_append, List.nil_append]
  repeat (first | refine g_op rfl ?_ | refine g_then ?_ | refine g_nil ?_ | refine g_region ?_ | refine g_seq ?_ | refine g_block ?_ | refine g_make rfl (by omega) (by omega) fun _ _ => ?_)
  rename_i bo _
  refine g_nilVecs 3 1 n ?_
  rw [show (List.replicate n (Value.slice none 0 0)) = (List.replicate n (⟨none, 0, []⟩ : Row)).map valR by simp [valR], show (List.replicate n (Ent.vec none 0 0 3 1 [])) = (List.replicate n (⟨none, 0, []⟩ : Row)).map entR by simp [entR]]
  simp only [List.cons_append, List.nil_append]
  skip
  refine g_loop (fun (x : Nat × List Row) => x.1 ≤ n ∧ x.2.length = n ∧ ∀ i r, x.2[i]? = some r → r.l = gridTo (Hangs bl) n x.1 0 i) (fun x => [(5, .int .i64 x.1), (4, .slice (some ⟨bo, 0, none⟩) n n), (3, .slice (some ⟨to, 0, none⟩) n n), (1, .pointer (some ⟨p1, 0, none⟩))])
    (fun x => Ent.vec (some ⟨bo, 0, none⟩) n n 27 1 (x.2.map valR) :: ⟨fp, tabF to ts⟩ :: Ent.box p1 [nm, pa, re, .slice ba n bc] 35 :: x.2.map entR) (fun x => n - x.1) (0, List.replicate n ⟨none, 0, []⟩)
    ⟨Nat.zero_le _, by simp, grid_new n⟩ (g_done (by repeat (first | exact trivial | refine ⟨rfl, ?_⟩)) (by simp)) fun x ⟨hi, hrl, hrows⟩ => ?_
  obtain ⟨b, rs⟩ := x
  simp only at hi hrl hrows ⊢
  repeat (first | refine g_op rfl ?_ | refine g_then ?_ | refine g_nil ?_ | refine g_region ?_ | refine g_seq ?_)
  refine g_cond (fun h1 => ?_) (fun h1 => ?_)
  · have hlt : b < n := by simpa using h1
    obtain ⟨B, hB⟩ := get_lt hn hlt
    have had : AddrIs ba bb bo' := ⟨hba (ne_of_get hB)⟩
    have hli : LtIs b n := ⟨hlt⟩
    obtain ⟨cs, hcs, pv', lv, tv, rfl, _, _, _, _, ht⟩ := hel b B hB
    have ht0 := ht
    obtain ⟨ta, tn, tc, tb, to', rfl, htn, htnc, htnb, htc, hta, htel⟩ := ht
    have hci : CellsIs w0 bb (bo' + b * 6) _ := ⟨hcs⟩
    have hBok := hok B (List.mem_of_getElem? hB)
    repeat (first | refine g_op rfl ?_ | refine g_then ?_ | refine g_nil ?_ | refine g_region ?_ | refine g_seq ?_ | refine g_block ?_ | refine g_skip ?_)
    refine g_loop (fun (x : Nat × List Row) => x.1 ≤ n ∧ x.2.length = n ∧ ∀ i r, x.2[i]? = some r → r.l = gridTo (Hangs bl) n b x.1 i) (fun x => [(7, .int .i64 x.1), (5, .int .i64 b), (6, .slice ta tn tc), (4, .slice (some ⟨bo, 0, none⟩) n n), (3, .slice (some ⟨to, 0, none⟩) n n), (1, .pointer (some ⟨p1, 0, none⟩))])
      (fun x => Ent.vec (some ⟨bo, 0, none⟩) n n 27 1 (x.2.map valR) :: ⟨fp, tabF to ts⟩ :: Ent.box p1 [nm, pa, re, .slice ba n bc] 35 :: x.2.map entR) (fun x => n - x.1) (0, rs)
      ⟨Nat.zero_le _, hrl, hrows⟩ (g_done (by repeat (first | exact trivial | refine ⟨rfl, ?_⟩)) (List.Sublist.refl _)) fun x ⟨hj, hrl', hrows'⟩ => ?_
    obtain ⟨c, rs'⟩ := x
    simp only at hj hrl' hrows' ⊢
    repeat (first | refine g_op rfl ?_ | refine g_then ?_ | refine g_nil ?_ | refine g_region ?_ | refine g_seq ?_)
    refine g_cond (fun h2 => ?_) (fun h2 => ?_)
    · have hclt : c < n := by simpa using h2
      have hasRow : ∀ t, t < n → ∃ r, ts[t]? = some r ∧ PackCell (tabF to ts) to (0 + t * 1) (.slice r.a r.l.length r.c) ∧ ((c : Int) ∈ r.l ↔ Sure bl t c) := by
        intro t ht
        obtain ⟨r, hr, hrl⟩ := tableL_row hps (show t < bl.length by omega)
        refine ⟨r, hr, ⟨fun w hF => by have := (hF t r hr).1; simpa [valR] using this⟩, ?_⟩
        rw [hrl, mem_ints, sureTo_mem]
        exact ⟨fun h => h.2, fun h => ⟨by omega, h⟩⟩
      repeat (first | refine g_then ?_ | refine g_seq ?_ | refine g_skip ?_)
      (first | refine g_block ?_ | refine g_inBlock ?_)
      repeat (first | refine g_op rfl ?_ | refine g_then ?_ | refine g_nil ?_ | refine g_region ?_ | refine g_seq ?_)
      refine g_mid ((8, .bool (B.to.any fun t => decide (Sure bl t.toNat c))) :: [(7, .int .i64 c), (5, .int .i64 b), (6, .slice ta tn tc), (4, .slice (some ⟨bo, 0, none⟩) n n), (3, .slice (some ⟨to, 0, none⟩) n n), (1, .pointer (some ⟨p1, 0, none⟩))]) (Ent.vec (some ⟨bo, 0, none⟩) n n 27 1 (rs'.map valR) :: ⟨fp, tabF to ts⟩ :: Ent.box p1 [nm, pa, re, .slice ba n bc] 35 :: rs'.map entR) ?_ ?_
      · repeat (refine g_block ?_)
        refine g_loop (fun (x : Nat × Bool) => x.1 ≤ tn ∧ (x.2 = true ↔ ∃ q t, q < x.1 ∧ B.to[q]? = some t ∧ Sure bl t.toNat c)) (fun x => [(9, .int .i64 x.1), (8, .bool x.2), (7, .int .i64 c), (5, .int .i64 b), (6, .slice ta tn tc), (4, .slice (some ⟨bo, 0, none⟩) n n), (3, .slice (some ⟨to, 0, none⟩) n n), (1, .pointer (some ⟨p1, 0, none⟩))])
          (fun x => Ent.vec (some ⟨bo, 0, none⟩) n n 27 1 (rs'.map valR) :: ⟨fp, tabF to ts⟩ :: Ent.box p1 [nm, pa, re, .slice ba n bc] 35 :: rs'.map entR) (fun x => tn - x.1) (0, false)
          ⟨Nat.zero_le _, by simp⟩ (g_done (by repeat (first | exact trivial | refine ⟨rfl, ?_⟩)) (List.Sublist.refl _)) fun x ⟨hj3, hon⟩ => ?_
        obtain ⟨j, on⟩ := x
        simp only at hj3 hon ⊢
        repeat (first | refine g_op rfl ?_ | refine g_then ?_ | refine g_nil ?_ | refine g_region ?_ | refine g_seq ?_)
        refine g_cond (fun h3 => ?_) (fun h3 => ?_)
        · have hjlt : j < tn := by simpa using h3
          obtain ⟨t, htj⟩ := get_lt htn hjlt
          have htt := hBok.2 t (List.mem_of_getElem? htj)
          obtain ⟨k, hk⟩ : ∃ k : Nat, t = k := ⟨t.toNat, by omega⟩
          have hkn : k < n := by omega
          have had2 : AddrIs ta tb to' := ⟨hta (ne_of_get htj)⟩
          have hli2 : LtIs j tn := ⟨hjlt⟩
          obtain ⟨cs2, hcs2, rfl, _⟩ := htel j t htj
          have hci2 : CellsIs w0 tb (to' + j * 1) _ := ⟨hcs2⟩
          have hnk : NatIs t k := ⟨hk⟩
          have hlk : LtIs k n := ⟨hkn⟩
          obtain ⟨r, hr, hpk, hmem⟩ := hasRow k hkn
          repeat (first | refine g_op rfl ?_ | refine g_then ?_ | refine g_region ?_ | refine g_seq ?_ | refine g_block ?_ | refine g_skip ?_)
          refine g_callV rfl (fun w hw => has_c _ r.l c w ((hw.get (k := 1) rfl : tabF to ts w) k r hr).2) ?_
          rw [show decide ((c : Int) ∈ r.l) = decide (Sure bl k c) by rw [decide_eq_decide]; exact hmem]
          have hstep : ∀ v, (v = true ↔ (on = true ∨ Sure bl k c)) → (v = true ↔ ∃ q t, q < j + 1 ∧ B.to[q]? = some t ∧ Sure bl t.toNat c) := by
            intro v hv
            rw [hv, hon]
            constructor
            · rintro (⟨q, t', h1, h2, h3⟩ | h)
              · exact ⟨q, t', by omega, h2, h3⟩
              · exact ⟨j, t, by omega, htj, by rw [hk]; simpa using h⟩
            · rintro ⟨q, t', h1, h2, h3⟩
              by_cases e : q = j
              · subst e
                rw [htj] at h2
                simp only [Option.some.injEq] at h2
                subst h2
                right
                rw [hk] at h3; simpa using h3
              · exact .inl ⟨q, t', by omega, h2, h3⟩
          generalize hsk : decide (Sure bl k c) = sk
          cases sk
          · have hno : ¬ Sure bl k c := by simpa using hsk
            repeat (first | refine g_op rfl ?_ | refine g_then ?_ | refine g_nil ?_ | refine g_region ?_ | refine g_opS rfl ?_ | refine g_inBlock ?_ | refine g_skip ?_ | refine g_condF ?_ | refine g_add rfl (by omega) (by omega) ?_)
            exact g_next (j + 1, on) ⟨hjlt, hstep on (by simp [hno])⟩ (by simp only; omega) (by repeat (first | exact trivial | refine ⟨rfl, ?_⟩)) (List.Sublist.refl _)
          · have hyes : Sure bl k c := by simpa using hsk
            repeat (first | refine g_op rfl ?_ | refine g_then ?_ | refine g_nil ?_ | refine g_region ?_ | refine g_opS rfl ?_ | refine g_inBlock ?_ | refine g_condT ?_ | refine g_add rfl (by omega) (by omega) ?_)
            exact g_next (j + 1, true) ⟨hjlt, hstep true (by simp [hyes])⟩ (by simp only; omega) (by repeat (first | exact trivial | refine ⟨rfl, ?_⟩)) (List.Sublist.refl _)
        · have hge : j = tn := by have := h3; simp at this; omega
          have hfin : on = B.to.any fun t => decide (Sure bl t.toNat c) := by
            rw [Bool.eq_iff_iff, hon, List.any_eq_true]
            constructor
            · rintro ⟨q, t, _, h2, h3⟩
              exact ⟨t, List.mem_of_getElem? h2, by simpa using h3⟩
            · rintro ⟨t, ht, h⟩
              obtain ⟨q, hq⟩ := List.getElem?_of_mem ht
              exact ⟨q, t, by have := (List.getElem?_eq_some_iff.1 hq).1; omega, hq, by simpa using h⟩
          rw [hfin]
          repeat (first | refine g_then ?_ | refine g_exit ?_ | refine g_thenExit ?_ | refine g_exitHere ?_)
          exact g_done (by repeat (first | exact trivial | refine ⟨rfl, ?_⟩)) (List.Sublist.refl _)
      have hon : (B.to.any fun t => decide (Sure bl t.toNat c)) = true ↔ ∃ t ∈ toOf bl b, Sure bl t.toNat c := by
        rw [List.any_eq_true, toOf_get hB]
        simp
      generalize (B.to.any fun t => decide (Sure bl t.toNat c)) = on at hon
      have hlc : LtIs c n := ⟨hclt⟩
      obtain ⟨r, hr, hpk, hmem⟩ := hasRow b hlt
      have hH : Hangs bl b c ↔ (on && (decide ((c : Int) = b) || !decide (Sure bl b c))) = true := by
        simp only [Hangs, Bool.and_eq_true, Bool.or_eq_true, decide_eq_true_eq, hon, Bool.not_eq_true', decide_eq_false_iff_not]
        constructor
        · rintro ⟨h1, h2⟩; exact ⟨h1, h2.imp (fun h => by omega) id⟩
        · rintro ⟨h1, h2⟩; exact ⟨h1, h2.imp (fun h => by omega) id⟩
      repeat (first | refine g_op rfl ?_ | refine g_region ?_ | refine g_seq ?_)
      refine g_joinTo 63 (.bool (on && (decide ((c : Int) = b) || !decide (Sure bl b c)))) ?_ ?_
      · cases on
        · repeat (first | refine g_op rfl ?_ | refine g_then ?_ | refine g_nil ?_ | refine g_pass rfl ?_ | refine g_passU rfl ?_)
          exact g_done (by repeat (first | exact trivial | refine ⟨rfl, ?_⟩)) (List.Sublist.refl _)
        · repeat (first | refine g_op rfl ?_ | refine g_open ?_)
          generalize decide ((c : Int) = b) = kb
          cases kb
          · repeat (first | refine g_op rfl ?_ | refine g_open ?_)
            refine g_callV rfl (fun w hw => has_c _ r.l c w ((hw.get (k := 1) rfl : tabF to ts w) b r hr).2) ?_
            rw [show decide ((c : Int) ∈ r.l) = decide (Sure bl b c) by rw [decide_eq_decide]; exact hmem]
            repeat (first | refine g_op rfl ?_ | refine g_then ?_ | refine g_nil ?_ | refine g_open ?_)
            exact g_done (by repeat (first | exact trivial | refine ⟨rfl, ?_⟩)) (List.Sublist.refl _)
          · repeat (first | refine g_op rfl ?_ | refine g_then ?_ | refine g_nil ?_ | refine g_open ?_ | refine g_pass rfl ?_)
            exact g_done (by repeat (first | exact trivial | refine ⟨rfl, ?_⟩)) (List.Sublist.refl _)
      generalize (on && (decide ((c : Int) = b) || !decide (Sure bl b c))) = o at hH
      cases o
      · repeat (first | refine g_op rfl ?_ | refine g_then ?_ | refine g_nil ?_ | refine g_region ?_ | refine g_opS rfl ?_ | refine g_inBlock ?_ | refine g_skip ?_ | refine g_condF ?_ | refine g_add rfl (by omega) (by omega) ?_)
        exact g_next (c + 1, rs') ⟨hclt, hrl', grid_pass hrows' (fun h => by simpa using hH.1 h)⟩ (by simp only; omega) (by repeat (first | exact trivial | refine ⟨rfl, ?_⟩)) (List.Sublist.refl _)
      · have hs := hH.2 rfl
        obtain ⟨r, hr⟩ : ∃ r, rs'[b]? = some r := ⟨_, List.getElem?_eq_getElem (by omega)⟩
        have hrb := gridTo_bd (Hangs bl) (n := n) (by omega) b c b (by omega)
        rw [← hrows' b r hr] at hrb
        have hbl : b < rs'.length := by omega
        have hxa : XAt (rs'.map valR) (b * 1) (.slice r.a r.l.length r.c) := ⟨by simp [hr, valR]⟩
        repeat (first | refine g_op rfl ?_ | refine g_then ?_ | refine g_nil ?_ | refine g_region ?_ | refine g_condT ?_ | refine g_build1 rfl rfl fun _ _ => ?_)
        rename_i bt _
        refine g_appendAt (b + 4) (xs := r.l.map (.int .i64)) (e := 3) (by simp [hr, entR]) rfl rfl (by omega) (by omega) fun a' c' => ?_
        refine g_eqH (H1 := Ent.vec (some ⟨bt, 0, none⟩) 1 1 3 1 [.int .i64 c] :: Ent.vec (some ⟨bo, 0, none⟩) n n 27 1 (rs'.map valR) :: ⟨fp, tabF to ts⟩ :: Ent.box p1 [nm, pa, re, .slice ba n bc] 35 :: (rs'.set b ⟨a', c', r.l ++ [(c : Int)]⟩).map entR) (by simp [entR, List.map_set]) ?_
        have hxs : XSet (rs'.map valR) (b * 1) (.slice a' (r.l.length + 1) c') ((rs'.set b ⟨a', c', r.l ++ [(c : Int)]⟩).map valR) := ⟨by simp [valR, List.map_set], by simpa using hbl⟩
        repeat (first | refine g_op rfl ?_ | refine g_then ?_ | refine g_nil ?_ | refine g_region ?_ | refine g_opS rfl ?_ | refine g_inBlock ?_ | refine g_add rfl (by omega) (by omega) ?_ | refine g_storeV ?_)
        exact g_next (c + 1, rs'.set b ⟨a', c', r.l ++ [(c : Int)]⟩) ⟨hclt, by simpa using hrl', grid_add hrows' hr hs⟩ (by simp only; omega) (by repeat (first | exact trivial | refine ⟨rfl, ?_⟩)) (List.Sublist.cons _ (List.Sublist.refl _))
    · have hge : c = n := by have := h2; simp at this; omega
      repeat (first | refine g_op rfl ?_ | refine g_then ?_ | refine g_nil ?_ | refine g_region ?_ | refine g_opS rfl ?_ | refine g_inBlock ?_ | refine g_add rfl (by omega) (by omega) ?_ | refine g_exit ?_ | refine g_thenExit ?_ | refine g_exitHere ?_)
      refine g_next (b + 1, rs') ⟨hlt, hrl', fun i q hq => ?_⟩ (by simp only; omega) (by repeat (first | exact trivial | refine ⟨rfl, ?_⟩)) (List.Sublist.refl _)
      rw [gridTo_next, hrows' i q hq, hge]
  · have hge : b = n := by have := h1; simp at this; omega
    repeat (first | refine g_op rfl ?_ | refine g_then ?_ | refine g_nil ?_ | refine g_region ?_ | refine g_seq ?_ | refine g_exit ?_ | refine g_thenExit ?_ | refine g_exitHere ?_ | refine g_ret ?_)
    exact g_ret1 rfl fun w hw => ⟨(bo, rs), rfl, hw.sub (List.Sublist.cons_cons _ (List.Sublist.cons _ (List.Sublist.cons _ (List.Sublist.refl _)))), gridTo_all hrl fun i r hr => by rw [hrows i r hr, hge], hrl⟩
end Go.Proofs.YtebajiafdkokjaaDoor

/- The law DomHangs, walked. -/
namespace Go.Proofs.YtebajiafdkokjaaDoor
open Go Go.RowKit
attribute [local irreducible] wpListIn Code.wpIn Exit.then Exit.inBlock bodyPost wpQuiet wpAnyIn
set_option maxHeartbeats 2000000

theorem gridL_bd {R : Nat → Nat → Prop} {n : Nat} (hn : n ≤ 100) {l : List Int} (h : l ∈ gridL R n) : l.length ≤ 1000 ∧ ∀ x ∈ l, inI x := by
  classical
  obtain ⟨b, hb, rfl⟩ := List.mem_map.1 h
  have := gridTo_bd R hn b n b hn
  simp only [gridTo, Nat.lt_irrefl, if_false, if_true] at this
  exact ⟨by omega, this.2⟩
/-- a table of rows of numbers, packed -/
theorem Wd.grid {S : Nat → Prop} {w0 w : World} {rs : List Row} {bo n e : Nat} {R : Nat → Nat → Prop} (h : Wd S w0 (Ent.vec (some ⟨bo, 0, none⟩) n n e 1 (rs.map valR) :: rs.map entR) w) (hl : rs.length = n) (hn : n ≤ 100) (hr : rs.map (·.l) = gridL R n) :
    Wd S w0 [⟨fps (Ent.vec (some ⟨bo, 0, none⟩) n n e 1 (rs.map valR) :: rs.map entR), fun w => SlAt w (.slice (some ⟨bo, 0, none⟩) n n) 1 (gridL R n) RowV⟩] w := by
  have h1 : Wd S w0 ((Ent.vec (some ⟨bo, 0, none⟩) n n e 1 (rs.map valR) :: rs.map entR) ++ []) w := by rw [List.append_nil]; exact h
  refine h1.pack _ fun w2 hw2 => ?_
  rw [← hr]
  refine rows_sl (H := []) (by rw [List.append_nil]; exact hw2) hl.symm hn fun r hr' => gridL_bd hn (hr ▸ List.mem_map.2 ⟨r, hr', rfl⟩)
theorem hangLaw_c (u : LUnit) (k : Int) (hk : inI k) (g fs : Value) (w0 : World) (hg : SlAt w0 g 3 u.globals GlobalV) (hf : SlAt w0 fs 4 u.funcs FuncV) (hways : CellsAt w0 0 0 waysC) :
    RetV Tryd.prog 6 [.agg #[g, fs], .int .i64 k] w0 (.bool true) := by
  have hg0 := hg
  have hf0 := hf
  obtain ⟨ga, gn, gc, gb, go, rfl, _⟩ := hg
  obtain ⟨fa, fn, fc, fb, fo, rfl, hfn, hfnc, hfnb, hfc, hfa, hfel⟩ := hf
  refine ret_enter Tryd.func6 rfl Tryd.ntmps6 rfl (Wd.nil NoS w0) ?_
  repeat (first | refine g_op rfl ?_ | refine g_then ?_ | refine g_nil ?_ | refine g_region ?_ | refine g_seq ?_ | refine g_box rfl fun _ _ => ?_)
  rename_i p2 _
  refine g_callE (val := fun b : Bool => .bool b) (E := fun _ => []) (φ := fun b => b = false → light u) rfl (fun w hw => heavy_c u _ _ w (hf0.keep keeps_func hw.chg) ⟨_, _, _, rfl⟩) fun b hb => ?_
  simp only [List.nil_append]
  cases b
  case true =>
    repeat (first | refine g_then ?_ | refine g_nil ?_ | refine g_region ?_ | refine g_seq ?_ | refine g_opS rfl ?_ | refine g_condT ?_ | refine g_ret ?_ | refine g_thenRet ?_)
    exact g_retV rfl rfl
  have hl := hb rfl
  repeat (first | refine g_op rfl ?_ | refine g_then ?_ | refine g_nil ?_ | refine g_region ?_ | refine g_seq ?_ | refine g_skip ?_ | refine g_condF ?_)
  by_cases hbad : (askedL u k).1 ≠ 0
  · refine g_callV rfl (fun w hw => hang_bad u hl k hk hbad _ _ w (hg0.keep keeps_global hw.chg) (hf0.keep keeps_func hw.chg) (hways.keep hw.chg)) ?_
    repeat (first | refine g_op rfl ?_ | refine g_then ?_ | refine g_nil ?_ | refine g_region ?_ | refine g_seq ?_ | refine g_alloc rfl fun _ _ => ?_ | refine g_storeAgg ?_)
    refine g_callV rfl (fun w hw => asked_c u hl k _ _ w (hg0.keep keeps_global hw.chg) (hf0.keep keeps_func hw.chg) (hways.keep hw.chg)) ?_
    repeat (first | refine g_op rfl ?_ | refine g_then ?_ | refine g_nil ?_ | refine g_region ?_ | refine g_seq ?_ | refine g_alloc rfl fun _ _ => ?_ | refine g_storeAgg ?_)
    refine g_cond (fun h1 => ?_) (fun h1 => ?_)
    · repeat (first | refine g_op rfl ?_ | refine g_region ?_ | refine g_seq ?_)
      rw [show (decide ((askedL u k).1 = (askedL u k).1) && decide ((askedL u k).2 = (askedL u k).2)) = true by simp]
      repeat (first | refine g_op rfl ?_ | refine g_then ?_ | refine g_nil ?_ | refine g_opS rfl ?_ | refine g_open ?_ | refine g_ret ?_ | refine g_thenRet ?_)
      exact g_retV rfl rfl
    · exact absurd h1 (by simp [hbad])
  have hgood : (askedL u k).1 = 0 := by simpa using hbad
  obtain ⟨hch, has, i, X, rfl, hX, hok⟩ := asked_ok hgood
  have hil : i < fn := by rw [hfn]; exact (List.getElem?_eq_some_iff.1 hX).1
  have had : AddrIs fa fb fo := ⟨hfa (ne_of_get hX)⟩
  have hli : LtIs i fn := ⟨hil⟩
  obtain ⟨cs, hcs, bv, rfl, hpi, hri, hbv⟩ := hfel i X hX
  have hci : CellsIs w0 fb (fo + i * 4) _ := ⟨hcs⟩
  have hbv0 := hbv
  obtain ⟨ba, bn, bc, _, _, rfl, hbn, _⟩ := hbv
  have h24 := (hl.2 X (List.mem_of_getElem? hX)).1
  refine g_callE (val := fun x : Nat × (Nat → Prop) => .tuple #[.slice (some ⟨x.1, 0, none⟩) X.blocks.length X.blocks.length, .agg #[.int .i64 0, .int .i64 0]]) (E := fun x => [⟨x.2, fun w => SlAt w (.slice (some ⟨x.1, 0, none⟩) X.blocks.length X.blocks.length) 1 (gridL (Hangs X.blocks) X.blocks.length) RowV⟩]) (φ := fun _ => True) rfl (fun w hw =>
    (hang_ok u hl i hgood X hX hok _ _ w (hg0.keep keeps_global hw.chg) (hf0.keep keeps_func hw.chg) (hways.keep hw.chg)).mono fun v w' ⟨x, h1, h2, h3, h4⟩ => ⟨(x.1, _), h1, h2.grid h4 (by omega) h3, trivial⟩) fun x _ => ?_
  obtain ⟨ra, rp⟩ := x
  simp only [List.cons_append, List.nil_append]
  repeat (first | refine g_op rfl ?_ | refine g_then ?_ | refine g_nil ?_ | refine g_region ?_ | refine g_seq ?_ | refine g_alloc rfl fun _ _ => ?_ | refine g_storeAgg ?_)
  rename_i p6 _
  refine g_callV rfl (fun w hw => asked_c u hl i _ _ w (hg0.keep keeps_global hw.chg) (hf0.keep keeps_func hw.chg) (hways.keep hw.chg)) ?_
  rw [has]
  repeat (first | refine g_op rfl ?_ | refine g_then ?_ | refine g_nil ?_ | refine g_region ?_ | refine g_seq ?_ | refine g_open ?_ | refine g_alloc rfl fun _ _ => ?_ | refine g_storeAgg ?_ | refine g_skip ?_ | refine g_condF ?_)
  rename_i p7 _
  refine g_callE (val := fun x : Nat × (Nat → Prop) => .slice (some ⟨x.1, 0, none⟩) X.blocks.length X.blocks.length) (E := fun x => [⟨x.2, fun w => SlAt w (.slice (some ⟨x.1, 0, none⟩) X.blocks.length X.blocks.length) 1 (gridL (Hangs X.blocks) X.blocks.length) RowV⟩]) (φ := fun _ => True) rfl (fun w hw =>
    (refHang_c _ _ _ X.blocks _ w (hbv0.keep keeps_block hw.chg) (by omega) hok).mono fun v w' ⟨x, h1, h2, h3, h4⟩ => ⟨(x.1, _), h1, h2.grid h4 (by omega) h3, trivial⟩) fun y _ => ?_
  obtain ⟨sa, sp⟩ := y
  simp only [List.cons_append, List.nil_append]
  refine g_open ?_
  refine g_callV rfl (fun w hw => rows_c _ _ (gridL (Hangs X.blocks) X.blocks.length) (gridL (Hangs X.blocks) X.blocks.length) w ?_ ?_) ?_
  · exact hw.get (k := 3) rfl
  · exact hw.get (k := 0) rfl
  rw [show decide (gridL (Hangs X.blocks) X.blocks.length = gridL (Hangs X.blocks) X.blocks.length) = true by simp]
  try simp only [decide_true, Bool.and_self]
  repeat (first | refine g_op rfl ?_ | refine g_then ?_ | refine g_nil ?_ | refine g_opS rfl ?_ | refine g_ret ?_)
  exact g_retV rfl rfl
end Go.Proofs.YtebajiafdkokjaaDoor

/- slices.Reverse, graph.OrderOf, graph.Order; two more rules. -/
namespace Go.Proofs.YtebajiafdkokjaaDoor
open Go Go.RowKit

section
variable {P : Program} {ro : Option Nat} {N : Nat} {ds : List Deferred} {S : Nat → Prop} {w0 : World} {L L' : List (Nat × Value)} {H H' : List Ent} {ops : Array Oper} {rest : List Oper} {Q : Exit → Act → World → Prop} {x y : Operand}
theorem g_endTC {fn : Func} {R : Value → World → Prop} {s t T n b j bt : Nat} {u : Value} {cs : List Value} (hr : fn.results = #[.tmp s, .cell t T]) [hu : SlotIs L s u] [hv : SlotIs L t (.pointer (some ⟨b, 0, none⟩))] [h : AggSize P T n] [hb : BoxIn H b j cs bt] [hl : LenIs cs n] (hR : ∀ w, Wd S w0 H w → R (.tuple #[u, .agg cs.toArray]) w) : G N [] S w0 L H (bodyPost P fn (fun e w' => ∃ v, e = .returned v ∧ R v w') .normal) := fun a w hS => g_retTC (P := P) (T := T) hr hR a w hS
theorem g_end1 {fn : Func} {R : Value → World → Prop} {t : Nat} {v : Value} (hr : fn.results = #[.tmp t]) [hv : SlotIs L t v] (hR : ∀ w, Wd S w0 H w → R v w) : G N [] S w0 L H (bodyPost P fn (fun e w' => ∃ v, e = .returned v ∧ R v w') .normal) := fun a w hS => g_ret1 (P := P) hr hR a w hS
/-- '[]T{}' -/
theorem g_build0 {d ty T e s by' : Nat} {zs : List Value} {pos : String} {aft : Array Go.Edge} [h : ElemInfo P T e s by' zs] (hd : okPut d N L = true)
    (k : ∀ b, w0.heap.size ≤ b → G N ds S w0 ((d, .slice (some ⟨b, 0, none⟩) 0 0) :: L) (Ent.vec (some ⟨b, 0, none⟩) 0 0 e s [] :: H) (wpListIn (FW ro) 0 P ops Q rest)) : G N ds S w0 L H (wpListIn (FW ro) 0 P ops Q (⟨some d, .buildSlice T 0 #[], ty, pos, aft, none⟩ :: rest)) := by
  intro a w hS
  obtain ⟨i, zz, hi, _, _, _, _⟩ := h.get
  refine step_val (v := .slice (some ⟨w.heap.size, 0, none⟩) 0 0) (w' := w.alloc (.cells #[] e)) rfl (fun _ h => by cases h) ?_ ?_
  · have hr : (Instr.buildSlice T 0 #[]).run P w = .ok (.slice (some ⟨w.heap.size, 0, none⟩) 0 0) (w.alloc (.cells #[] e)) := by
      simp [Instr.buildSlice, run_underlying h.und, sizeOf, typeInfo, hi, Instr.fill, newRow]
      congr 2
      exact Array.eq_empty_of_size_eq_zero (by simp)
    simp [execOp, hr]
  · exact k _ hS.wd.size _ _ ⟨hS.fr.putOk hd _, hS.wd.vecNew e s 0 [] (by simp) (by simp [maxLen])⟩
theorem set_self {α : Type} {l : List α} {k : Nat} {e : α} (h : l[k]? = some e) : l.set k e = l := by
  apply List.ext_getElem?
  intro i
  rw [List.getElem?_set]
  split
  · rename_i hi; subst hi
    rw [if_pos (List.getElem?_eq_some_iff.1 h).1, h]
  · rfl
/-- 'append(x, y...)' of numbers that can be read -/
theorem g_appendI {d ty T e by' : Nat} {z : Value} {pos : String} {aft : Array Go.Edge} {ad a2 : Option Addr} {n c m c2 k : Nat} {xs : List Value} [h : ElemInfo P T e 1 by' [z]] [hx : Ev L x (.slice ad n c)] [hy : Ev L y (.slice a2 m c2)]
    [hv : VecIn H ad n c k e 1 xs] (hd : okPut d N L = true) (l : List Int) (hsl : ∀ w, Wd S w0 H w → SlAt w (.slice a2 m c2) 1 l IntV) (hbytes : (n + m) * by' ≤ 140737488355328) (h63 : n + m ≤ 140737488355328)
    {F : Ent → List Ent} [hF : SetFn H k F] (kk : ∀ a' c', G N ds S w0 ((d, .slice a' (n + m) c') :: L) (F (Ent.vec a' (n + m) c' e 1 (xs ++ l.map (.int .i64)))) (wpListIn (FW ro) 0 P ops Q rest)) : G N ds S w0 L H (wpListIn (FW ro) 0 P ops Q (⟨some d, .call { callee := .builtin .append, args := #[x, y], argTypes := #[T, T] }, ty, pos, aft, none⟩ :: rest)) := by
  intro a w hS
  obtain ⟨a2', m', c2', b, o, hval, hm, hmc, _, _, ha, hel⟩ := hsl w hS.wd
  simp only [Value.slice.injEq] at hval
  obtain ⟨rfl, rfl, rfl⟩ := hval
  by_cases h0 : m = 0
  · subst h0
    have hl : l = [] := List.eq_nil_of_length_eq_zero hm.symm
    subst hl
    obtain ⟨i, zz, hi, _, _, _, _⟩ := h.get
    have hnc : n ≤ c := by
      obtain ⟨_, h2⟩ := hS.wd.get hv.at'
      rcases h2 with ⟨_, h2, h3⟩ | ⟨_, _, _, _, h3, _⟩ <;> omega
    have hr : (Builtin.append_ #[T, T] ty #[.slice ad n c, .slice a2 0 c2]).run P w = .ok (.slice ad n c) w := by
      cases ad <;> cases a2 <;> simp [Builtin.append_, run_underlying h.und, sizeOf, typeInfo, hi, Builtin.lenOf, Builtin.firstCells, hnc, storeCells, loadCells, loadCellsFrom]
    refine step_val (v := .slice ad n c) (w' := w) rfl (fun _ h => by cases h) ?_ ?_
    · simp [execOp, resolve, invoke, builtin, hx.eq _ _ _ hS.fr, hy.eq _ _ _ hS.fr, hr]
    · have := kk ad c
      simp only [List.map_nil, List.append_nil, Nat.add_zero] at this
      rw [← hF.eq, set_self hv.at'] at this
      exact this _ _ ⟨hS.fr.putOk hd _, hS.wd⟩
  · have hne : l ≠ [] := by rintro rfl; simp at hm; exact h0 hm
    have ha := ha hne
    subst ha
    obtain ⟨a', c', w', hr, hw'⟩ := hS.wd.append (P := P) (ty := ty) (c2 := c2) (a2 := ⟨b, o, none⟩) (m := m) (news := l.map (.int .i64)) h (by omega) hv.at' (by omega) (by simp [hm]) (fun j u hj => by
      rw [List.getElem?_map] at hj
      obtain ⟨q, hq, rfl⟩ := Option.map_eq_some_iff.1 hj
      obtain ⟨cs, hc, rfl, _⟩ := hel j q hq
      have := hc 0 _ rfl
      rw [Addr.add_lit]
      simpa using this) (fun u hu => by obtain ⟨q, _, rfl⟩ := List.mem_map.1 hu; rfl) hbytes h63 rfl
    refine step_val (v := .slice a' (n + m) c') (w' := w') rfl (fun _ h => by cases h) ?_ ?_
    · simp [execOp, resolve, invoke, builtin, hx.eq _ _ _ hS.fr, hy.eq _ _ _ hS.fr, hr]
    · rw [hF.eq] at hw'
      exact kk a' c' _ _ ⟨hS.fr.putOk hd _, hw'⟩
end
attribute [local irreducible] wpListIn Code.wpIn Exit.then Exit.inBlock bodyPost wpQuiet wpAnyIn
set_option maxHeartbeats 4000000

instance (x : Nat) : OneV (intN x) := ⟨rfl⟩
theorem rev_swap {l l' : List Nat} {i j : Nat} {x y : Nat} (hl : l'.length = l.length) (hij : i < j) (hj : i + j + 1 = l.length) (h : ∀ k, k < l.length → l'[k]? = if k < i ∨ j < k then l[l.length - 1 - k]? else l[k]?) (hx : l'[i]? = some x) (hy : l'[j]? = some y) :
    ∀ k, k < l.length → ((l'.set i y).set j x)[k]? = if k < i + 1 ∨ j - 1 < k then l[l.length - 1 - k]? else l[k]? := by
  intro k hk
  have hi := h i (by omega)
  have hjj := h j (by omega)
  rw [if_neg (by omega), hx] at hi
  rw [if_neg (by omega), hy] at hjj
  rw [List.getElem?_set, List.getElem?_set]
  by_cases e1 : j = k
  · subst e1
    rw [if_pos rfl, if_pos (by simp; omega), if_pos (by omega), show l.length - 1 - j = i by omega, hi]
  · rw [if_neg e1]
    by_cases e2 : i = k
    · subst e2
      rw [if_pos rfl, if_pos (by omega), if_pos (by omega), show l.length - 1 - i = j by omega, hjj]
    · rw [if_neg e2, h k hk]
      by_cases e3 : k < i ∨ j < k
      · rw [if_pos e3, if_pos (by omega)]
      · rw [if_neg e3, if_neg (by omega)]
theorem rev_done {l l' : List Nat} {i : Nat} (hl : l'.length = l.length) (hi : l.length ≤ 2 * i + 1) (h : ∀ k, k < l.length → l'[k]? = if k < i ∨ (l.length : Int) - 1 - i < k then l[l.length - 1 - k]? else l[k]?) : l' = l.reverse := by
  apply List.ext_getElem?
  intro k
  by_cases hk : k < l.length
  · rw [h k hk, List.getElem?_reverse hk]
    by_cases e : k < i ∨ (l.length : Int) - 1 - i < k
    · rw [if_pos e]
    · rw [if_neg e, show l.length - 1 - k = k by omega]
  · rw [List.getElem?_eq_none (by omega), List.getElem?_eq_none (by rw [List.length_reverse]; omega)]
theorem reverse_c (a : Option Addr) (c : Nat) (l : List Nat) (hlen : l.length ≤ 100000) (w : World) (hw : Wd (fps [Ent.vec a l.length c 3 1 (l.map intN)]) w [Ent.vec a l.length c 3 1 (l.map intN)] w) :
    Ret Tryd.prog 84 [.slice a l.length c] w fun u w' => ∃ _ : Unit, u = .tuple #[] ∧ Wd (fps [Ent.vec a l.length c 3 1 (l.map intN)]) w [Ent.vec a l.length c 3 1 (l.reverse.map intN)] w' ∧ True := by
  refine ret_enter Tryd.func84 rfl Tryd.ntmps84 rfl hw ?_
  generalize fps [Ent.vec a l.length c 3 1 (l.map intN)] = SS
  repeat (first | refine g_op rfl ?_ | refine g_then ?_ | refine g_nil ?_ | refine g_region ?_ | refine g_seq ?_ | refine g_block ?_ | refine g_sub rfl (by omega) (by omega) ?_)
  refine g_loop (fun (x : Nat × Int × Option Addr × List Nat) => x.2.1 = (l.length : Int) - 1 - x.1 ∧ x.1 ≤ l.length ∧ x.2.2.2.length = l.length ∧ x.2.2.1 = a ∧ ∀ k, k < l.length → x.2.2.2[k]? = if k < x.1 ∨ (l.length : Int) - 1 - x.1 < k then l[l.length - 1 - k]? else l[k]?) (fun x => [(2, .int .i64 x.1), (3, .int .i64 x.2.1), (0, .slice x.2.2.1 l.length c)])
    (fun x => [Ent.vec x.2.2.1 l.length c 3 1 (x.2.2.2.map intN)]) (fun x => l.length - x.1) (0, (l.length : Int) - 1, a, l) ⟨by simp, Nat.zero_le _, rfl, rfl, fun k hk => by rw [if_neg (by simp only; omega)]⟩ (g_done (by repeat (first | exact trivial | refine ⟨rfl, ?_⟩)) (List.Sublist.refl _)) fun x ⟨hj, hi, hl, ha, hall⟩ => ?_
  obtain ⟨i, j, a', l'⟩ := x
  simp only at hj hi hl ha hall ⊢
  repeat (first | refine g_op rfl ?_ | refine g_then ?_ | refine g_nil ?_ | refine g_region ?_ | refine g_seq ?_)
  refine g_cond (fun h1 => ?_) (fun h1 => ?_)
  · have hlt : (i : Int) < j := by simpa using h1
    obtain ⟨jn, rfl⟩ : ∃ jn : Nat, j = jn := ⟨j.toNat, by omega⟩
    refine g_vec 0 rfl (by omega) fun rb ro hra => ?_
    obtain ⟨x, hx⟩ : ∃ x, l'[i]? = some x := ⟨_, List.getElem?_eq_getElem (by omega)⟩
    obtain ⟨y, hy⟩ : ∃ y, l'[jn]? = some y := ⟨_, List.getElem?_eq_getElem (by omega)⟩
    rw [hra]
    have hli : LtIs i l.length := ⟨by omega⟩
    have hlj : LtIs jn l.length := ⟨by omega⟩
    have he1 : ElAt l' i x := ⟨hx⟩
    have he2 : ElAt l' jn y := ⟨hy⟩
    have he3 : ElAt (l'.set i y) jn y := ⟨by rw [List.getElem?_set, if_neg (by omega), hy]⟩
    have he4 : ElAt (l'.set jn x) i x := ⟨by rw [List.getElem?_set, if_neg (by omega), hx]⟩
    repeat (first | refine g_then ?_ | refine g_seq ?_ | refine g_block ?_ | refine g_skip ?_)
    refine g_drawW [(2, .int .i64 i), (3, .int .i64 jn), (0, .slice (some ⟨rb, ro, none⟩) l.length c)] [Ent.vec (some ⟨rb, ro, none⟩) l.length c 3 1 (((l'.set i y).set jn x).map intN)] mixed ?_ ?_
    · repeat' (first | refine g_take 0 rfl (by decide +kernel) ?_ | refine g_take 1 rfl (by decide +kernel) ?_ | refine g_take 2 rfl (by decide +kernel) ?_ | refine g_take 3 rfl (by decide +kernel) ?_ | refine g_take 4 rfl (by decide +kernel) ?_ | refine g_take 5 rfl (by decide +kernel) ?_ | refine g_take 6 rfl (by decide +kernel) ?_ | refine g_take 8 rfl (by decide +kernel) ?_ | refine g_take 9 rfl (by decide +kernel) ?_ | refine g_take 10 rfl (by decide +kernel) ?_ | refine g_take 12 rfl (by decide +kernel) ?_ | refine g_take 14 rfl (by decide +kernel) ?_ | refine g_any0 (by decide +kernel) ?_ | refine g_any (by decide +kernel) ?_ | refine any_nil | refine any_skip (by decide +kernel) ?_ | refine any_cons ?_ ?_ | refine g_op rfl ?_ | refine g_then ?_ | refine g_nil ?_ | refine g_storeV ?_)
      all_goals exact g_done (by repeat (first | exact trivial | refine ⟨rfl, ?_⟩)) (List.Sublist.refl _)
    · repeat (first | refine g_op rfl ?_ | refine g_then ?_ | refine g_nil ?_ | refine g_region ?_ | refine g_opS rfl ?_ | refine g_inBlock ?_ | refine g_add rfl (by omega) (by omega) ?_ | refine g_sub rfl (by omega) (by omega) ?_)
      refine g_next (i + 1, (jn : Int) - 1, some ⟨rb, ro, none⟩, (l'.set i y).set jn x) ⟨by simp only; omega, by simp only; omega, by simpa using hl, by rw [← hra]; exact ha, fun k hk => ?_⟩ (by simp only; omega) (by repeat (first | exact trivial | refine ⟨rfl, ?_⟩)) (List.Sublist.refl _)
      have := rev_swap hl (by omega) (by omega) (fun k hk => by
        rw [hall k hk]
        by_cases e : k < i ∨ jn < k
        · rw [if_pos e, if_pos (by omega)]
        · rw [if_neg e, if_neg (by omega)]) hx hy k hk
      rw [this]
      by_cases e : k < i + 1 ∨ jn - 1 < k
      · rw [if_pos e, if_pos (by simp only; omega)]
      · rw [if_neg e, if_neg (by simp only; omega)]
  · have hge : l' = l.reverse := rev_done hl (by simp at h1; omega) hall
    repeat (first | refine g_exit ?_ | refine g_thenExit ?_ | refine g_exitHere ?_)
    refine g_end0 rfl fun w' hw' => ⟨(), rfl, ?_, trivial⟩
    rw [← hge, ← ha]
    exact hw'
end Go.Proofs.YtebajiafdkokjaaDoor

/- More rules: a range whose loop variable lies in a box; loops in which marks pile up; append of what can be read; slices against nil. -/
namespace Go.Proofs.YtebajiafdkokjaaDoor
open Go Go.RowKit

theorem flat_one {α : Type} (f : α → Value) : ∀ l : List α, l.flatMap (fun x => [f x]) = l.map f
  | [] => rfl
  | x :: l => by rw [List.flatMap_cons, flat_one f l]; rfl
theorem flat_len {α : Type} {g : α → List Value} {s : Nat} (h : ∀ x, (g x).length = s) : ∀ l : List α, (l.flatMap g).length = l.length * s
  | [] => by simp
  | x :: l => by rw [List.flatMap_cons, List.length_append, h, flat_len h l, List.length_cons, Nat.add_mul]; omega
theorem flat_at {α : Type} {g : α → List Value} {s : Nat} (h : ∀ x, (g x).length = s) : ∀ (l : List α) (i : Nat) (x : α) (j : Nat) (v : Value), l[i]? = some x → (g x)[j]? = some v → (l.flatMap g)[i * s + j]? = some v
  | [], i, x, j, v, hi, _ => by simp at hi
  | y :: l, 0, x, j, v, hi, hj => by
    simp only [List.getElem?_cons_zero, Option.some.injEq] at hi
    subst hi
    rw [List.flatMap_cons, List.getElem?_append_left (by have := (List.getElem?_eq_some_iff.1 hj).1; omega)]
    simpa using hj
  | y :: l, i + 1, x, j, v, hi, hj => by
    rw [List.flatMap_cons, List.getElem?_append_right (by rw [h, Nat.add_mul]; omega), h, show (i + 1) * s + j - s = i * s + j by rw [Nat.add_mul]; omega]
    exact flat_at h l i x j v (by simpa using hi) hj
theorem flat_from {α : Type} {g : α → List Value} {s : Nat} (h : ∀ x, (g x).length = s) : ∀ (l : List α) (k : Nat) (v : Value), (l.flatMap g)[k]? = some v → ∃ i x j, l[i]? = some x ∧ (g x)[j]? = some v ∧ k = i * s + j
  | [], k, v, hk => by simp at hk
  | y :: l, k, v, hk => by
    rw [List.flatMap_cons] at hk
    by_cases hlt : k < (g y).length
    · rw [List.getElem?_append_left hlt] at hk
      exact ⟨0, y, k, rfl, hk, by omega⟩
    · rw [List.getElem?_append_right (by omega), h] at hk
      obtain ⟨i, x, j, h1, h2, h3⟩ := flat_from h l _ v hk
      rw [h] at hlt
      exact ⟨i + 1, x, j, by simpa using h1, h2, by rw [Nat.add_mul]; omega⟩

section
variable {P : Program} {ro : Option Nat} {N : Nat} {ds : List Deferred} {S : Nat → Prop} {w0 : World} {L L' : List (Nat × Value)} {H H' : List Ent} {a : Act} {w : World}
  {ops : Array Oper} {rest : List Oper} {Q : Exit → Act → World → Prop} {p : Act → World → Prop} {x y : Operand}

instance {T e s by' : Nat} {zs : List Value} [h : ElemInfo P T e s by' zs] (ad : Option Addr) (n c : Nat) : EqVal P T (.slice ad n c) (.slice none 0 0) ad.isNone :=
  ⟨fun op _ _ w => by unfold eqGuard; split <;> simp, fun w => by simp [binOp, run_equal_slice_nil w T e ad n c h.und], fun w => run_neq_slice_nil w T e ad n c h.und⟩

/-- 'append(x, y...)' of elements that can be read -/
theorem g_appendF {α : Type} {d ty T e s by' : Nat} {zs : List Value} {pos : String} {aft : Array Go.Edge} {ad a2 : Option Addr} {n c m c2 k : Nat} {xs : List Value} [h : ElemInfo P T e s by' zs] [hx : Ev L x (.slice ad n c)] [hy : Ev L y (.slice a2 m c2)]
    [hv : VecIn H ad n c k e s xs] (hd : okPut d N L = true) (hs : (Nat.blt 0 s && Nat.beq zs.length s) = true) (l : List α) {V : World → α → List Value → Prop} (g : α → List Value) (hg : ∀ w x cs, V w x cs → cs = g x) (hlen : ∀ x, (g x).length = s) (hone : ∀ x, ∀ u ∈ g x, u.oneCell' = true)
    (hsl : ∀ w, Wd S w0 H w → SlAt w (.slice a2 m c2) s l V) (hbytes : (n + m) * by' ≤ 140737488355328) (h63 : n + m ≤ 140737488355328)
    {F : Ent → List Ent} [hF : SetFn H k F] (kk : ∀ a' c', G N ds S w0 ((d, .slice a' (n + m) c') :: L) (F (Ent.vec a' (n + m) c' e s (xs ++ l.flatMap g))) (wpListIn (FW ro) 0 P ops Q rest)) : G N ds S w0 L H (wpListIn (FW ro) 0 P ops Q (⟨some d, .call { callee := .builtin .append, args := #[x, y], argTypes := #[T, T] }, ty, pos, aft, none⟩ :: rest)) := by
  intro a w hS
  simp only [Bool.and_eq_true, Nat.blt_eq] at hs
  obtain ⟨a2', m', c2', b, o, hval, hm, hmc, _, _, ha, hel⟩ := hsl w hS.wd
  simp only [Value.slice.injEq] at hval
  obtain ⟨rfl, rfl, rfl⟩ := hval
  by_cases h0 : m = 0
  · subst h0
    have hl : l = [] := List.eq_nil_of_length_eq_zero hm.symm
    subst hl
    obtain ⟨i, zz, hi, _, _, _, _⟩ := h.get
    have hnc : n ≤ c := by
      obtain ⟨_, h2⟩ := hS.wd.get hv.at'
      rcases h2 with ⟨_, h2, h3⟩ | ⟨_, _, _, _, h3, _⟩ <;> omega
    have hr : (Builtin.append_ #[T, T] ty #[.slice ad n c, .slice a2 0 c2]).run P w = .ok (.slice ad n c) w := by
      cases ad <;> cases a2 <;> simp [Builtin.append_, run_underlying h.und, sizeOf, typeInfo, hi, Builtin.lenOf, Builtin.firstCells, hnc, storeCells, loadCells, loadCellsFrom]
    refine step_val (v := .slice ad n c) (w' := w) rfl (fun _ h => by cases h) ?_ ?_
    · simp [execOp, resolve, invoke, builtin, hx.eq _ _ _ hS.fr, hy.eq _ _ _ hS.fr, hr]
    · have := kk ad c
      simp only [List.flatMap_nil, List.append_nil, Nat.add_zero] at this
      rw [← hF.eq, set_self hv.at'] at this
      exact this _ _ ⟨hS.fr.putOk hd _, hS.wd⟩
  · have hne : l ≠ [] := by rintro rfl; simp at hm; exact h0 hm
    have ha := ha hne
    subst ha
    obtain ⟨a', c', w', hr, hw'⟩ := hS.wd.append (P := P) (ty := ty) (c2 := c2) (a2 := ⟨b, o, none⟩) (m := m) (news := l.flatMap g) h hs.1 hv.at' (by omega) (by rw [flat_len hlen, hm]) (fun j u hj => by
      obtain ⟨i, q, j', h1, h2, rfl⟩ := flat_from hlen l j u hj
      obtain ⟨cs, hc, hV⟩ := hel i q h1
      rw [hg _ _ _ hV] at hc
      have := hc j' u h2
      rw [Addr.add_lit, ← Nat.add_assoc]
      exact this) (fun u hu => by obtain ⟨q, _, hq⟩ := List.mem_flatMap.1 hu; exact hone q u hq) hbytes h63 (Nat.eq_of_beq_eq_true hs.2)
    refine step_val (v := .slice a' (n + m) c') (w' := w') rfl (fun _ h => by cases h) ?_ ?_
    · simp [execOp, resolve, invoke, builtin, hx.eq _ _ _ hS.fr, hy.eq _ _ _ hS.fr, hr]
    · rw [hF.eq] at hw'
      exact kk a' c' _ _ ⟨hS.fr.putOk hd _, hw'⟩

/-! ### Marks that pile up -/
def marks (Ds : List Nat) : List Ent := Ds.map Ent.mark
def dsOf (Ds : List Nat) : List Deferred := Ds.map fun D => ⟨.collected D, #[]⟩
def NextD {α : Type} (N : Nat) (dx : α → List Deferred) (S : Nat → Prop) (w0 : World) (I : α → Prop) (Lx : α → List (Nat × Value)) (Hx : α → List Ent) (m : α → Nat) (x : α) : Act → World → Prop :=
  fun a w => ∃ x', (I x' ∧ St N (dx x') S w0 (Lx x') (Hx x') a w) ∧ m x' < m x
/-- a loop in which deferred marks pile up -/
theorem g_loopD {α : Type} (dx : α → List Deferred) (I : α → Prop) (Lx : α → List (Nat × Value)) (Hx : α → List Ent) (m : α → Nat) {c : Code} (x : α) (hds : dx x = ds) (hI : I x) (h0 : G N ds S w0 L H (St N ds S w0 (Lx x) (Hx x)))
    (round : ∀ x, I x → G N (dx x) S w0 (Lx x) (Hx x) (Code.wpIn (FW ro) 0 P c (Exit.then (NextD N dx S w0 I Lx Hx m x) Q))) : G N ds S w0 L H (Code.wpIn (FW ro) 0 P (Code.loop c) Q) :=
  fun a w hS => c_loop (fun x a w => I x ∧ St N (dx x) S w0 (Lx x) (Hx x) a w) m x ⟨hI, by rw [hds]; exact h0 a w hS⟩ fun x a w h => round x h.1 a w h.2
theorem g_nextD {α : Type} {dx : α → List Deferred} {I : α → Prop} {Lx : α → List (Nat × Value)} {Hx : α → List Ent} {m : α → Nat} {x : α} (x' : α) (hds : dx x' = ds) (hI : I x') (hm : m x' < m x) (hL : allIn L (Lx x')) (hH : (Hx x').Sublist H) : G N ds S w0 L H (NextD N dx S w0 I Lx Hx m x) :=
  fun _ _ hS => ⟨x', ⟨hI, by rw [hds]; exact hS.fix hL hH⟩, hm⟩
theorem leaves_marks {fn : Func} {tmps : Array Value} {R : Value → World → Prop} {v : Value} (hr : ∀ w, (results fn tmps).run P w = .ok v w) (hR : ∀ w, Wd NoS w0 H w → R v w) : ∀ (Ds : List Nat) (w : World), Wd NoS w0 (marks Ds ++ H) w →
    LeavesInM (FW none) 0 P fn tmps (fun e w' => ∃ v, e = .returned v ∧ R v w') (dsOf Ds) .returning w
  | [], w, hW => ⟨v, hr w, v, rfl, hR w hW⟩
  | D :: Ds, w, hW => by
    have h1 : Wd NoS w0 (Ent.mark D :: (marks Ds ++ H)) w := hW
    have hD : w0.heap.size ≤ D := (h1.own (Ent.mark D) (by simp) D rfl).1.elim (fun h => h.elim) id
    exact ⟨by simp, .inl ⟨D, _, rfl, run_takeDeferred (h1.get (k := 0) rfl), leaves_marks hr hR Ds _ (h1.shut hD _)⟩⟩
theorem g_retMs2 {fn : Func} {R : Value → World → Prop} {Ds : List Nat} {s t : Nat} {v u : Value} (hr : fn.results = #[.tmp s, .tmp t]) [hv : SlotIs L s v] [hu : SlotIs L t u] (hR : ∀ w, Wd NoS w0 H w → R (.tuple #[v, u]) w) : G N (dsOf Ds) NoS w0 L (marks Ds ++ H) (bodyPostM (FW none) 0 P fn (fun e w' => ∃ v, e = .returned v ∧ R v w') .ret) := fun a w hS => by
  show LeavesInM _ _ _ _ _ _ _ _ _
  rw [hS.fr.defers]
  exact leaves_marks (fun w => by rw [results_tmp2 hr]; simp [Array.getD_eq_getD_getElem?, hS.fr.slot _ hv.mem, hS.fr.slot _ hu.mem]) hR Ds w hS.wd
theorem g_retMs1 {fn : Func} {R : Value → World → Prop} {Ds : List Nat} {t : Nat} {v : Value} (hr : fn.results = #[.tmp t]) [hv : SlotIs L t v] (hR : ∀ w, Wd NoS w0 H w → R v w) : G N (dsOf Ds) NoS w0 L (marks Ds ++ H) (bodyPostM (FW none) 0 P fn (fun e w' => ∃ v, e = .returned v ∧ R v w') .ret) := fun a w hS => by
  show LeavesInM _ _ _ _ _ _ _ _ _
  rw [hS.fr.defers]
  exact leaves_marks (fun w => by rw [results_tmp hr]; simp [Array.getD_eq_getD_getElem?, hS.fr.slot _ hv.mem]) hR Ds w hS.wd

/-! ### A range whose loop variable lies in a box -/
/-- what keeps all cells but those of these blocks -/
def KeepX (own : Nat → Prop) (W W' : World) : Prop := ∀ b cs t z, ¬ own b → W.heap[b]? = some (.cells cs t z) → W'.heap[b]? = some (.cells cs t z)
theorem KeepX.refl (own : Nat → Prop) (W : World) : KeepX own W W := fun _ _ _ _ _ h => h
theorem KeepX.trans {own : Nat → Prop} {A B C : World} (h : KeepX own A B) (k : KeepX own B C) : KeepX own A C := fun b cs t z hb hc => k b cs t z hb (h b cs t z hb hc)
theorem cell_block {W : World} {p : Addr} {v : Value} (h : W.cell? p = some v) : ∃ cs t z, W.heap[p.block]? = some (.cells cs t z) := by
  unfold World.cell? at h
  revert h
  cases W.heap[p.block]? with
  | none => intro h; simp at h
  | some o => cases o <;> intro h <;> first | exact ⟨_, _, _, rfl⟩ | simp at h
theorem KeepX.cell {own : Nat → Prop} {A B : World} (h : KeepX own A B) {p : Addr} {v : Value} (hp : ¬ own p.block) (hc : A.cell? p = some v) : B.cell? p = some v := by
  obtain ⟨cs, t, z, hb⟩ := cell_block hc
  have := h _ _ _ _ hp hb
  rw [← hc]
  exact World.cell?_of_block (this.trans hb.symm)
theorem g_doneP {Lp : Nat → List (Nat × Value)} {Hp : Nat → List Ent} (q : Nat) (hL : allIn L (Lp q)) (hH : (Hp q).Sublist H) : G N ds S w0 L H (fun a w => ∃ q, St N ds S w0 (Lp q) (Hp q) a w) := fun _ _ hS => ⟨q, hS.fix hL hH⟩
theorem g_rangeB {α σ : Type} {g : Operand} {ps : Array Tmp} {assign body : Code} {gf : Nat} {lb : List Value} [hg : Ev L g (.func (.func gf) #[] lb.toArray)] [eg : EnterOk P gf] (F : List Ent) (Hc : σ → List Ent) (s0 : σ) (hcl : ∀ s, CellsL (Hc s)) (hfp : ∀ s s' b, fps (Hc s) b → fps (Hc s') b) (xs : List α) {encs : α → Array Value}
    {Bs : Nat} {bcs : List Value} {bt : TypeId} (hBs : Ent.box Bs bcs bt ∈ F)
    (hseq : ∀ w, Wd NoS w0 H w → SeqStopsK (FW none) 4 P gf lb.toArray encs (KeepX fun b => fps (Hc s0 ++ F) b ∧ b ≠ Bs) (fun ys => ys = xs) (fun pre => pre <+: xs) xs.length w)
    (I : List α → σ → Prop) (h0 : I [] s0) (hH : (Hc s0 ++ F).Sublist H) (hps : ∀ x, (encs x).size = ps.size) (bx : α → List Value) (T : Nat)
    (L0 : α → List (Nat × Value)) (La : α → Nat → List (Nat × Value)) (hput : ∀ x a, Fr N ds L a → Fr N [] (L0 x) { tmps := (ps.zip (encs x)).foldl (fun t (p, v) => t.setIfInBounds p v) a.tmps, defers := [] })
    (hassign : ∀ (l : Nat) (x : α) (s : σ) (R : Ent), G N [] NoS w0 (L0 x) (R :: (Hc s ++ F)) (assign.wpIn (FW (some l)) 0 P (Exit.then (fun a w => ∃ q, St N [] NoS w0 (La x q) (Ent.box q (bx x) T :: R :: (Hc s ++ F)) a w) (fun _ _ _ => False))))
    (hbody : ∀ (l : Nat) (pre : List α) (x : α) (s : σ) (q : Nat) (R : Ent), I pre s → pre.length < xs.length → G N [] NoS w0 (La x q) (R :: Ent.box q (bx x) T :: (Hc s ++ F)) (body.wpIn (FW (some l)) 0 P (Exit.then (Rnd NoS w0 (I (pre ++ [x])) R Hc (Ent.box q (bx x) T :: F)) (fun _ _ _ => False))))
    (k : ∀ D s, w0.heap.size ≤ D → I xs s → G N (⟨.collected D, #[]⟩ :: ds) NoS w0 L (Ent.mark D :: (Hc s ++ F)) (Q .normal)) : G N ds NoS w0 L H (Code.wpIn (FW none) 0 P (Code.rangeFunc g ps assign body) Q) := fun a w hS => by
  have hsz := hS.wd.size
  have hF : ∀ e ∈ F, ∀ b, e.fp b → b < w.heap.size := fun e he b hb => (hS.wd.own e (hH.subset (List.mem_append_right _ he)) b hb).2
  have hcell : ∀ s W, Wd NoS w0 (Hc s ++ F) W → ∀ r o, W.heap[r]? = some o → o.isCells = false → w.heap.size ≤ r → ¬ fps (Hc s ++ F) r := by
    rintro s W hW r o ho hn hle ⟨e, he, hb⟩
    rcases List.mem_append.1 he with he | he
    · obtain ⟨j, hj⟩ := List.getElem?_of_mem (List.mem_append_left F he)
      obtain ⟨cs, t, z, hc⟩ := ((hcl s).all e he).ok W (hW.get hj) r hb
      rw [hc] at ho
      cases ho
      cases hn
    · have := hF e he r hb; omega
  have hbox : ∀ s W, Wd NoS w0 (Hc s ++ F) W → W.heap[Bs]? = some (.cells bcs.toArray bt (0, 0)) := fun s W hW => by
    obtain ⟨j, hj⟩ := List.getElem?_of_mem (List.mem_append_right (Hc s) hBs)
    exact hW.get hj
  have hfpF : ∀ s s' b, fps (Hc s ++ F) b → fps (Hc s' ++ F) b := by
    rintro s s' b ⟨e, he, hb⟩
    rcases List.mem_append.1 he with he | he
    · obtain ⟨e', he', hb'⟩ := hfp s s' b ⟨e, he, hb⟩
      exact ⟨e', List.mem_append_left _ he', hb'⟩
    · exact ⟨e, List.mem_append_right _ he, hb⟩
  have hout : ∀ s s' (H0 : List Ent) W W', Wd NoS w0 (Hc s ++ F) W → (∀ r o, W.heap[r]? = some o → o.isCells = false → w.heap.size ≤ r → ¬ fps H0 r) → Wd NoS w0 (Ent.rest (restOf w0.heap.size W H0) W :: (Hc s' ++ F)) W' → (∀ b, fps H0 b → ¬ fps (Hc s0 ++ F) b → W'.heap[b]? = W.heap[b]?) → KeepsFrom w.heap.size W W' ∧ KeepX (fun b => fps (Hc s0 ++ F) b ∧ b ≠ Bs) W W' := by
    intro s s' H0 W W' hW hc0 hW' hx
    obtain ⟨hs, hr⟩ := hW'.get (k := 0) rfl
    refine ⟨⟨hs, fun j o hj ho hn => ?_⟩, fun b cs t z hb hc => ?_⟩
    · exact (hr j ⟨by omega, (Array.getElem?_eq_some_iff.1 ho).1, hc0 j o ho hn hj⟩).trans ho
    · by_cases e : b = Bs
      · subst e
        exact (hbox s' W' (hW'.sub (List.sublist_cons_self _ _))).trans ((hbox s W hW).symm.trans hc)
      · have hnf : ¬ fps (Hc s0 ++ F) b := fun h => hb ⟨h, e⟩
        by_cases hlt : b < w0.heap.size
        · exact ((hW'.chg.block b hlt fun h => h).trans (hW.chg.block b hlt fun h => h).symm).trans hc
        · by_cases h0 : fps H0 b
          · exact (hx b h0 hnf).trans hc
          · exact (hr b ⟨by omega, (Array.getElem?_eq_some_iff.1 hc).1, h0⟩).trans hc
  refine wpIn_deep (m := 5) ?_
  refine wpIn_rangeFunc_ownH (F := FW none) (n := 5) (w0 := w) rfl (by omega) (hg.eq _ _ _ hS.fr) trivial (fun args w => eg.run args w) (hseq w hS.wd) (fun h1 h2 => h1.trans h2) (fun W l o o' hl ho hn _ b cs t z _ hc => ?_) (Below.refl _ _) hps
    (fun pre W => ∃ s, I pre s ∧ Wd NoS w0 (Hc s ++ F) W ∧ w.heap.size ≤ W.heap.size) (fun _ _ _ => False) (fun pre W W' row ⟨s, hI, hW, hsW⟩ hg hr => ⟨s, hI, hW.grown hg fun r e => ?_, Nat.le_trans hsW hg.size⟩) (fun _ _ _ _ _ h => h.elim) ⟨s0, h0, hS.wd.sub hH, Nat.le_refl _⟩
    (fun x a' W => ∃ q, Fr N [] (La x q) a' ∧ W.heap[q]? = some (.cells (bx x).toArray T (0, 0)) ∧ w.heap.size ≤ q ∧ ∀ s, ¬ fps (Hc s ++ F) q) (fun x a' _ W W' row ⟨q, h1, h2, h3, h4⟩ hg hr => ⟨q, h1, ?_, h3, h4⟩) ?_ ?_ ?_ ?_
  · refine (World.putObj_heap_other fun e => ?_).trans hc
    subst e
    rw [hc] at ho
    cases ho
    cases hn
  · obtain ⟨h1, o, ho, hn⟩ := hr r e
    exact ⟨by omega, hcell s W hW r o ho hn h1⟩
  · refine (hg.block q (Array.getElem?_eq_some_iff.1 h2).1 fun e => ?_).trans h2
    obtain ⟨_, o, ho, hn⟩ := hr q e.symm
    rw [h2] at ho
    cases ho
    cases hn
  · rintro l pre x W K ⟨s, hI, hW, hsW⟩ hK
    refine wpIn_deep (m := 0) ?_
    refine Code.wpIn_mono (fun e a' W' q => ?_) (hassign l x s _ _ W ⟨hput x a hS.fr, hW.withRest⟩)
    cases e with
    | normal =>
      obtain ⟨q, hq⟩ := q
      have ho := hout s s _ W W' hW (hcell s W hW) (hq.wd.sub (List.sublist_cons_self _ _)) fun b hb hn => absurd (hfpF s s0 b hb) hn
      have hap := List.pairwise_cons.1 hq.wd.apart
      have hqf : ¬ fps (Hc s ++ F) q := fun ⟨e, he, hb⟩ => hap.1 e (List.mem_cons_of_mem _ he) q rfl hb
      have hqo := hq.wd.own (Ent.box q (bx x) T) (by simp) q rfl
      refine hK a' W' ho.1 ho.2 ⟨s, hI, hq.wd.sub (List.Sublist.cons _ (List.Sublist.cons _ (List.Sublist.refl _))), Nat.le_trans hsW ho.1.size⟩ ⟨q, hq.fr, hq.wd.get (k := 0) rfl, ?_, fun s' h => hqf (hfpF s' s q h)⟩
      refine Classical.byContradiction fun hlt => ?_
      have h1 : w0.heap.size ≤ q := hqo.1.elim (fun h => h.elim) id
      exact hap.1 (Ent.rest (restOf w0.heap.size W (Hc s ++ F)) W) (by simp) q rfl ⟨h1, by omega, hqf⟩
    | _ => exact q.elim
  · rintro l pre x a' W _ _ ⟨s, hI, hW, hsW⟩ ⟨q', h1, h2, h3, h4⟩ hlt
    have hWb : Wd NoS w0 (Ent.box q' (bx x) T :: (Hc s ++ F)) W := ⟨hW.chg, fun e he b hb => by
      rcases List.mem_cons.1 he with rfl | he
      · cases hb
        exact ⟨.inr (by omega), (Array.getElem?_eq_some_iff.1 h2).1⟩
      · exact hW.own e he b hb, fun e he w2 hs hw2 => by
      rcases List.mem_cons.1 he with rfl | he
      · exact (hw2 q' rfl).trans h2
      · exact hW.ok e he w2 hs hw2, List.pairwise_cons.2 ⟨fun f hf b hb hfb => by cases hb; exact h4 s ⟨f, hf, hfb⟩, hW.apart⟩⟩
    refine wpIn_deep (m := 0) ?_
    refine Code.wpIn_mono (fun e a' W' q => ?_) (hbody l pre x s q' _ hI hlt a' W ⟨h1, hWb.withRest⟩)
    cases e with
    | normal =>
      obtain ⟨s', hI', hW'⟩ := q
      have hW2 : Wd NoS w0 (Ent.rest (restOf w0.heap.size W (Ent.box q' (bx x) T :: (Hc s ++ F))) W :: (Hc s' ++ F)) W' := hW'.sub (List.Sublist.cons_cons _ (List.Sublist.append_left (List.sublist_cons_self _ _) _))
      have hq2 : W'.heap[q']? = some (.cells (bx x).toArray T (0, 0)) := by
        obtain ⟨j, hj⟩ := List.getElem?_of_mem (show Ent.box q' (bx x) T ∈ Ent.rest (restOf w0.heap.size W (Ent.box q' (bx x) T :: (Hc s ++ F))) W :: (Hc s' ++ (Ent.box q' (bx x) T :: F)) by simp)
        exact hW'.get hj
      have ho := hout s s' _ W W' hW (fun r o ho hn hle => by
        rintro ⟨e, he, hb⟩
        rcases List.mem_cons.1 he with rfl | he
        · cases hb
          rw [h2] at ho
          cases ho
          cases hn
        · exact hcell s W hW r o ho hn hle ⟨e, he, hb⟩) hW2 (fun b hb hn => by
        obtain ⟨e, he, hb⟩ := hb
        rcases List.mem_cons.1 he with rfl | he
        · cases hb
          exact hq2.trans h2.symm
        · exact absurd (hfpF s s0 b ⟨e, he, hb⟩) hn)
      exact ⟨ho.1, ho.2, s', hI', hW2.sub (List.sublist_cons_self _ _), Nat.le_trans hsW ho.1.size⟩
    | _ => exact q.elim
  · rintro D ys W hD rfl ⟨s, hI, hW, _⟩ hd
    refine k D s (by omega) hI _ W ⟨⟨hS.fr.size, by rw [hS.fr.defers], hS.fr.slot⟩, ?_⟩
    have hn : ¬ fps (Hc s ++ F) D := hcell s W hW D _ hd rfl hD
    exact ⟨hW.chg, fun e he b hb => by
      rcases List.mem_cons.1 he with rfl | he
      · cases hb
        exact ⟨.inr (by omega), (Array.getElem?_eq_some_iff.1 hd).1⟩
      · exact hW.own e he b hb, fun e he w2 hs hw2 => by
      rcases List.mem_cons.1 he with rfl | he
      · exact (hw2 D rfl).trans hd
      · exact hW.ok e he w2 hs hw2, List.pairwise_cons.2 ⟨fun f hf b hb hfb => by cases hb; exact hn ⟨f, hf, hfb⟩, hW.apart⟩⟩
  · intro D c pre W _ _ h
    exact h.elim
end
end Go.Proofs.YtebajiafdkokjaaDoor

/- slices.Backward over instructions, core.Vals: the iterators' contracts. -/
namespace Go.Proofs.YtebajiafdkokjaaDoor
open Go Go.RowKit Go.Shelf
attribute [local go_sem] Oper.semAt_some

/-- the pairs that have come after k rounds over l, from its end on -/
def downL (l : List (List Value)) (k : Nat) : List (Int × List Value) := (List.range k).map fun (j : Nat) => (((l.length - 1 - j : Nat) : Int), l[l.length - 1 - j]?.getD [])
theorem downL_length (l : List (List Value)) (k : Nat) : (downL l k).length = k := by simp [downL]

set_option maxRecDepth 100000 in
set_option maxHeartbeats 2000000 in
theorem backIns1_in (n : Nat) (hn : 1 ≤ n) {α : Type} (enc : α → Int × List Value) (l Bs b off cap : Nat) (K : Nat → Prop) (Kp : World → World → Prop) (hKr : ∀ W, Kp W W) (hKt : ∀ A B C, Kp A B → Kp B C → Kp A C) (hKc : ∀ A B, Kp A B → ∀ p v, K p.block → A.cell? p = some v → B.cell? p = some v) (zs : List (List Value)) (xs : List α) (hxs : xs.map enc = downL zs zs.length) (hlen : zs.length ≤ 100000) (hb : zs ≠ [] → K b) (hBsK : K Bs) (J Jx : List α → World → Prop) (a : Option Addr) (ha : zs ≠ [] → a = some ⟨b, off, none⟩)
    (hY : ∀ pre x W, J pre W → pre.length < zs.length → YieldAt Fence.wide (n - 1) Tryd.prog l #[.int .i64 (enc x).1, .agg (enc x).2.toArray] W fun e W' =>
      (e = .returned (.bool true) ∧ J (pre ++ [x]) W' ∧ Kp W W') ∨ (e = .returned (.bool false) ∧ Jx (pre ++ [x]) W'))
    (W : World) (hBs : W.cell? ⟨Bs, 0, none⟩ = some (.slice a zs.length cap)) (h8 : ∀ z ∈ zs, z.length = 8) (hc : ∀ m z, zs[m]? = some z → ∀ j v, z[j]? = some v → W.cell? ⟨b, off + m * 8 + j, none⟩ = some v) (h0 : J [] W) :
    CallsIn Fence.wide n Tryd.prog 114 #[.func (.yield l) #[] #[], .pointer (some ⟨Bs, 0, none⟩)] W fun e W' => (∃ v, e = .returned v) ∧
      ((∃ ys, ys = xs ∧ J ys W') ∨ (∃ pre, pre <+: xs ∧ Jx pre W')) := by
  refine callsIn_of_wp Tryd.func114 rfl trivial ?_ rfl
  simp only [Tryd.ntmps114, List.size_toArray, List.length_cons, List.length_nil, Nat.reduceAdd, Nat.reduceSub, Array.replicate_succ, Array.replicate_zero, List.push_toArray, List.append_toArray, List.nil_append, List.cons_append]
  have hxl : xs.length = zs.length := by have := congrArg List.length hxs; rwa [List.length_map, downL_length] at this
  have hwr : wrap64 ((zs.length : Int) - 1) = (zs.length : Int) - 1 := wrap64_in' _ (by omega) (by omega)
  gi_wp2
  gi_loopw [3] (fun i wr => ∃ m : Nat, m ≤ zs.length ∧ i = .int .i64 ((m : Int) - 1) ∧ J (xs.take (zs.length - m)) wr ∧ Kp W wr) (fun i _ => (intOf i + 1).toNat)
  case atStart => exact ⟨zs.length, Nat.le_refl _, by first | rfl | simp [hwr], by simpa using h0, hKr _⟩
  case round =>
    obtain ⟨m, hm, rfl, hJs, hk⟩ := hrel
    cases m with
    | zero =>
      gi_wp2
      go_end0
      exact ⟨⟨_, rfl⟩, .inl ⟨xs, rfl, by rw [Nat.sub_zero, List.take_of_length_le (by omega)] at hJs; exact hJs⟩⟩
    | succ m =>
      have hne : zs ≠ [] := by rintro rfl; simp at hm
      obtain rfl := ha hne
      rw [show (((m + 1 : Nat) : Int) - 1) = (m : Int) by omega]
      obtain ⟨z, hz⟩ : ∃ z, zs[m]? = some z := ⟨_, List.getElem?_eq_getElem (by omega)⟩
      have hz8 := h8 z (List.mem_of_getElem? hz)
      obtain ⟨c0, c1, c2, c3, c4, c5, c6, c7, rfl⟩ : ∃ c0 c1 c2 c3 c4 c5 c6 c7, z = [c0, c1, c2, c3, c4, c5, c6, c7] := by
        match z, hz8 with
        | [c0, c1, c2, c3, c4, c5, c6, c7], _ => exact ⟨c0, c1, c2, c3, c4, c5, c6, c7, rfl⟩
      have hc0 : wr.cell? ⟨b, off + m * 8, none⟩ = some c0 := hKc _ _ hk ⟨b, off + m * 8, none⟩ _ (hb hne) (hc m _ hz 0 c0 rfl)
      have hc1 : wr.cell? ⟨b, off + m * 8 + 1, none⟩ = some c1 := hKc _ _ hk ⟨b, off + m * 8 + 1, none⟩ _ (hb hne) (hc m _ hz 1 c1 rfl)
      have hc2 : wr.cell? ⟨b, off + m * 8 + 2, none⟩ = some c2 := hKc _ _ hk ⟨b, off + m * 8 + 2, none⟩ _ (hb hne) (hc m _ hz 2 c2 rfl)
      have hc3 : wr.cell? ⟨b, off + m * 8 + 3, none⟩ = some c3 := hKc _ _ hk ⟨b, off + m * 8 + 3, none⟩ _ (hb hne) (hc m _ hz 3 c3 rfl)
      have hc4 : wr.cell? ⟨b, off + m * 8 + 4, none⟩ = some c4 := hKc _ _ hk ⟨b, off + m * 8 + 4, none⟩ _ (hb hne) (hc m _ hz 4 c4 rfl)
      have hc5 : wr.cell? ⟨b, off + m * 8 + 5, none⟩ = some c5 := hKc _ _ hk ⟨b, off + m * 8 + 5, none⟩ _ (hb hne) (hc m _ hz 5 c5 rfl)
      have hc6 : wr.cell? ⟨b, off + m * 8 + 6, none⟩ = some c6 := hKc _ _ hk ⟨b, off + m * 8 + 6, none⟩ _ (hb hne) (hc m _ hz 6 c6 rfl)
      have hc7 : wr.cell? ⟨b, off + m * 8 + 7, none⟩ = some c7 := hKc _ _ hk ⟨b, off + m * 8 + 7, none⟩ _ (hb hne) (hc m _ hz 7 c7 rfl)
      have hBx : wr.cell? ⟨Bs, 0, none⟩ = some (.slice (some ⟨b, off, none⟩) zs.length cap) := hKc _ _ hk ⟨Bs, 0, none⟩ _ hBsK hBs
      have hlt : m < zs.length := by omega
      obtain ⟨x, hx⟩ : ∃ x, xs[zs.length - (m + 1)]? = some x := ⟨_, List.getElem?_eq_getElem (by omega)⟩
      have hex : enc x = ((m : Int), [c0, c1, c2, c3, c4, c5, c6, c7]) := by
        have h1 : (xs.map enc)[zs.length - (m + 1)]? = some (enc x) := by rw [List.getElem?_map, hx]; rfl
        rw [hxs, downL, List.getElem?_map, List.getElem?_range (by omega)] at h1
        simp only [Option.map_some, Option.some.injEq] at h1
        rw [← h1, show zs.length - 1 - (zs.length - (m + 1)) = m by omega, hz]; rfl
      have hY1 := hY _ x wr hJs (by rw [List.length_take]; omega)
      rw [hex] at hY1
      have htk : xs.take (zs.length - (m + 1)) ++ [x] = xs.take (zs.length - m) := by
        rw [show zs.length - m = (zs.length - (m + 1)) + 1 by omega, List.take_add_one, hx]; rfl
      rw [htk] at hY1
      obtain ⟨fn, tmps, assign, body, hy, hR⟩ := hY1
      dsimp only at hy
      have hwr2 : wrap64 ((m : Int) - 1) = (m : Int) - 1 := wrap64_in' _ (by omega) (by omega)
      gi_wp2
      refine hR.mono ?_
      rintro e W3 (⟨rfl, hJ3, hk3⟩ | ⟨rfl, hJx3⟩)
      · gi_wp2
        go_roundw
        case rel => exact ⟨m, by omega, by first | rfl | simp [hwr2], hJ3, hKt _ _ _ hk hk3⟩
        case measure => simp [intOf]
      · gi_wp2
        refine bodyPost_ret (results_none rfl _ _ _) rfl ?_
        exact ⟨⟨_, rfl⟩, .inr ⟨_, List.take_prefix _ _, hJx3⟩⟩
end Go.Proofs.YtebajiafdkokjaaDoor
