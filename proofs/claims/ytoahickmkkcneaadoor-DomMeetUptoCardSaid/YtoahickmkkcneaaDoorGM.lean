/- Texts joined: Sort PostC Own Clone RangeO DfsB LoopP RingP BacksP SortC Pair Backs BacksB. -/
import Derived.ChangeKeysEq
import Derived.Shelf.Slices.In.SortNone
import Derived.Shelf.Sort.Plain
import Derived.Sort.Grow
import Derived.Sort.Row
import Derived.Test.YtoahickmkkcneaaDoorGA
import Derived.Test.YtoahickmkkcneaaDoorGB
import Derived.Test.YtoahickmkkcneaaDoorGD
import Derived.Test.YtoahickmkkcneaaDoorGE
import Derived.Test.YtoahickmkkcneaaDoorGF
import Derived.Test.YtoahickmkkcneaaDoorGG
import Derived.Test.YtoahickmkkcneaaDoorGI
/- Numbers sorted by the library, in a row of the call's own; lists that rise, as plain facts. -/
namespace Go.Proofs.YtoahickmkkcneaaDoor
open Go Go.RowKit

def sorted (l : List Int) : List Int := l.mergeSort fun x y => decide (x ≤ y)
theorem sorted_perm (l : List Int) : (sorted l).Perm l := List.mergeSort_perm l _
theorem sorted_len (l : List Int) : (sorted l).length = l.length := (sorted_perm l).length_eq
theorem sorted_mem {l : List Int} {x : Int} : x ∈ sorted l ↔ x ∈ l := (sorted_perm l).mem_iff
theorem sorted_le (l : List Int) : (sorted l).Pairwise (· ≤ ·) := by
  have := List.pairwise_mergeSort (le := fun x y : Int => decide (x ≤ y)) (fun a b c h1 h2 => by simp at h1 h2 ⊢; omega) (fun a b => by simp; omega) l
  exact this.imp fun h => by simpa using h
/-- two lists that rise and hold the same are one -/
theorem rise_eq : ∀ {l m : List Int}, l.Pairwise (· < ·) → m.Pairwise (· < ·) → (∀ x, x ∈ l ↔ x ∈ m) → l = m
  | [], [], _, _, _ => rfl
  | [], y :: m, _, _, h => by have := (h y).2 (by simp); cases this
  | x :: l, [], _, _, h => by have := (h x).1 (by simp); cases this
  | x :: l, y :: m, hl, hm, h => by
    obtain ⟨hx, hl'⟩ := List.pairwise_cons.1 hl
    obtain ⟨hy, hm'⟩ := List.pairwise_cons.1 hm
    have e : x = y := by
      rcases List.mem_cons.1 ((h x).1 (by simp)) with e | h1
      · exact e
      · rcases List.mem_cons.1 ((h y).2 (by simp)) with e | h2
        · exact e.symm
        · have := hx y h2; have := hy x h1; omega
    subst e
    congr 1
    refine rise_eq hl' hm' fun z => ⟨fun hz => ?_, fun hz => ?_⟩
    · rcases List.mem_cons.1 ((h z).1 (List.mem_cons_of_mem _ hz)) with e | h1
      · have := hx z hz; omega
      · exact h1
    · rcases List.mem_cons.1 ((h z).2 (List.mem_cons_of_mem _ hz)) with e | h1
      · have := hy z hz; omega
      · exact h1
theorem sorted_rise {l : List Int} (hn : l.Nodup) : (sorted l).Pairwise (· < ·) := by
  have h1 := sorted_le l
  have h2 : (sorted l).Nodup := (sorted_perm l).nodup_iff.2 hn
  exact (h1.and h2).imp fun ⟨h, k⟩ => by omega
theorem filter_rise (n : Nat) (p : Nat → Bool) : (((List.range n).filter p).map fun x : Nat => (x : Int)).Pairwise (· < ·) := by
  rw [List.pairwise_map]
  exact ((List.pairwise_lt_range).filter p).imp fun h => by omega
/-- what is sorted, each once, is what a filter of the numbers in a row is -/
theorem sorted_filter {l : List Int} {n : Nat} {p : Nat → Bool} (hn : l.Nodup) (h : ∀ x, x ∈ l ↔ ∃ c : Nat, x = c ∧ c < n ∧ p c = true) : sorted l = ((List.range n).filter p).map fun x : Nat => (x : Int) := by
  refine rise_eq (sorted_rise hn) (filter_rise n p) fun x => ?_
  rw [sorted_mem, h, List.mem_map]
  exact ⟨fun ⟨c, e, h1, h2⟩ => ⟨c, List.mem_filter.2 ⟨List.mem_range.2 h1, h2⟩, e.symm⟩, fun ⟨c, h1, e⟩ => ⟨c, e.symm, List.mem_range.1 (List.mem_filter.1 h1).1, (List.mem_filter.1 h1).2⟩⟩

theorem putCells_row (pre xs sp : List Value) (l : List Int) (h : xs.length = l.length) : Go.Sort.putCells (Value.int .i64) pre.length l.toArray (pre ++ xs ++ sp).toArray = (pre ++ l.map (Value.int .i64) ++ sp).toArray := by
  apply Array.ext'
  apply List.ext_getElem?
  intro j
  unfold Go.Sort.putCells
  by_cases hj : j < (pre ++ xs ++ sp).length
  · rw [Array.getElem?_toList, Array.getElem?_mapIdx]
    rw [List.getElem?_toArray, List.getElem?_eq_getElem hj]
    simp only [Option.map_some]
    by_cases h1 : j < pre.length
    · rw [if_neg (by simp; omega)]
      simp [List.getElem?_append, h1]
    · by_cases h2 : j < pre.length + l.length
      · rw [if_pos (by simp; omega)]
        rw [List.append_assoc, List.getElem?_append_right (by omega), List.getElem?_append_left (by simp; omega)]
        have h3 : j - pre.length < l.length := by omega
        simp [h3]
      · rw [if_neg (by simp; omega)]
        rw [List.getElem?_append_right (by simp; omega)]
        simp only [List.length_append, List.length_map] at hj ⊢
        rw [List.getElem_append_right (by simp; omega)]
        simp only [List.length_append, h]
        rw [List.getElem?_eq_getElem (by omega)]
  · rw [Array.getElem?_toList, Array.getElem?_eq_none (by simp only [Array.size_mapIdx]; simpa using hj), List.getElem?_eq_none (by simp at hj ⊢; omega)]
/-- a row of numbers sorted by the library -/
theorem Wd.sorted {S : Nat → Prop} {w0 w : World} {H : List Ent} (hW : Wd S w0 H w) {k b o n c e m : Nat} {os : Array Obj} {l l' : List Int} (hk : H[k]? = some (Ent.vec (some ⟨b, o, none⟩) n c e 1 (l.map (.int .i64)))) (hl : l'.length = l.length) :
    Wd S w0 (H.set k (Ent.vec (some ⟨b, o, none⟩) n c e 1 (l'.map (.int .i64)))) (Go.Sort.grow (Go.Sort.putRow (Value.int .i64) (Go.Sort.ahead w m) b o l'.toArray) os) := by
  obtain ⟨h1, h2, h3, pre, sp, rfl, h5, hb⟩ := hW.vecAt hk
  rw [List.length_map] at h1
  have hlt : b < w.heap.size := (Array.getElem?_eq_some_iff.1 hb).1
  have hsz : (Go.Sort.putRow (Value.int .i64) (Go.Sort.ahead w m) b pre.length l'.toArray).heap.size = w.heap.size := by simp [Go.Sort.putRow, Go.Sort.mapBlock, Go.Sort.ahead]
  have hnew : (Go.Sort.putRow (Value.int .i64) (Go.Sort.ahead w m) b pre.length l'.toArray).heap[b]? = some (.cells (pre ++ l'.map (Value.int .i64) ++ sp).toArray e (0, 0)) := by
    simp only [Go.Sort.putRow, Go.Sort.mapBlock, Go.Sort.ahead, Array.getElem?_modify, if_true, hb, Option.map_some, Go.Sort.onCells]
    rw [putCells_row pre _ sp l' (by simp [hl])]
  have hoth : ∀ j, j ≠ b → (Go.Sort.putRow (Value.int .i64) (Go.Sort.ahead w m) b pre.length l'.toArray).heap[j]? = w.heap[j]? := fun j hj => by
    simp [Go.Sort.putRow, Go.Sort.mapBlock, Go.Sort.ahead, Array.getElem?_modify, Ne.symm hj]
  have hT : Wd S w0 (H.set k (Ent.vec (some ⟨b, pre.length, none⟩) n c e 1 (l'.map (.int .i64)))) (Go.Sort.putRow (Value.int .i64) (Go.Sort.ahead w m) b pre.length l'.toArray) := by
    refine hW.turnAt hk ⟨rfl, rfl, rfl, by rw [hsz]; exact Nat.le_refl _, fun j _ hj => hoth j fun e' => hj (by simp [Ent.vec, e'])⟩ (fun b' hb' => ?_) fun w2 hw2 => ?_
    · simp only [Ent.vec, Option.map_some, Option.some.injEq] at hb' ⊢
      subst hb'
      exact ⟨.inl rfl, by rw [hsz]; exact hlt⟩
    · have := hw2 b (by simp [Ent.vec])
      refine ⟨by simpa [hl] using h1, .inr ⟨b, pre, sp, rfl, h2, h3, h5, ?_⟩⟩
      rw [this, hnew]
  refine hT.call ⟨rfl, rfl, rfl, by simp [Go.Sort.grow], fun j hj _ => ?_⟩
  simp only [Go.Sort.grow]
  rw [Array.getElem?_append_left hj]
end Go.Proofs.YtoahickmkkcneaaDoor

/- turneryref3.Post: what it returns; the law DomPosts, walked. -/
namespace Go.Proofs.YtoahickmkkcneaaDoor
open Go Go.RowKit
attribute [local irreducible] wpListIn Code.wpIn Exit.then Exit.inBlock bodyPost wpQuiet wpAnyIn
set_option maxHeartbeats 4000000

/-- what a piece that is held tells of no world -/
theorem g_know {N : Nat} {ds : List Deferred} {S : Nat → Prop} {w0 : World} {L : List (Nat × Value)} {H : List Ent} {p : Act → World → Prop} (k : Nat) {e : Ent} (hk : H[k]? = some e) {φ : Prop} (hφ : ∀ w, e.ok w → φ) (h : φ → G N ds S w0 L H p) : G N ds S w0 L H p := fun a w hS => h (hφ w (hS.wd.get hk)) a w hS
theorem tab_row {to : Nat} {ts : List Row} {t i : Nat} {r : Row} {y : Int} (hr : ts[t]? = some r) (hy : r.l[i]? = some y) {w : World} (h : tabF to ts w) : ∃ rb ro, r.a = some ⟨rb, ro, none⟩ := by
  obtain ⟨_, h2⟩ := h t r hr
  obtain ⟨a, n, c, b, o, hv, _, _, _, _, ha, _⟩ := h2
  simp only [valR, Value.slice.injEq] at hv
  exact ⟨b, o, by rw [hv.1]; exact ha (ne_of_get hy)⟩
theorem tab_cell {to : Nat} {ts : List Row} {t i rb ro : Nat} {r : Row} {y : Int} (hr : ts[t]? = some r) (hy : r.l[i]? = some y) (ha : r.a = some ⟨rb, ro, none⟩) : PackCell (tabF to ts) rb (ro + i * 1) (.int .i64 y) := ⟨fun w h => by
  obtain ⟨_, h2⟩ := h t r hr
  obtain ⟨a, n, c, b, o, hv, _, _, _, _, ha2, hel⟩ := h2
  simp only [valR, Value.slice.injEq] at hv
  have := ha2 (ne_of_get hy)
  rw [← hv.1, ha] at this
  simp only [Option.some.injEq, Addr.mk.injEq, and_true] at this
  obtain ⟨rfl, rfl⟩ := this
  obtain ⟨cs, hc, rfl, _⟩ := hel i y hy
  exact hc 0 _ rfl⟩
end Go.Proofs.YtoahickmkkcneaaDoor

/- Functions' blocks in memory of the call's own: their rows, with the places where each lies; pieces taken as one. -/
namespace Go.Proofs.YtoahickmkkcneaaDoor
open Go Go.RowKit

/-- pieces taken as one; each of them stays by itself -/
def Ent.join (H : List Ent) : Ent := ⟨fps H, fun w => (∀ e ∈ H, ∀ w2 : World, w.heap.size ≤ w2.heap.size → (∀ b, e.fp b → w2.heap[b]? = w.heap[b]?) → e.ok w2) ∧ H.Pairwise fun e f => ∀ b, e.fp b → ¬ f.fp b⟩
section
variable {P : Program} {N : Nat} {ds : List Deferred} {S : Nat → Prop} {w0 w : World} {L : List (Nat × Value)} {H H1 H2 : List Ent} {p : Act → World → Prop}
theorem Wd.join (h : Wd S w0 (H1 ++ H2) w) : Wd S w0 (Ent.join H1 :: H2) w := by
  have hap := List.pairwise_append.1 h.apart
  refine ⟨h.chg, fun e he b hb => ?_, fun e he w' hs hw' => ?_, List.pairwise_cons.2 ⟨fun f hf b ⟨e, he, hb⟩ => hap.2.2 e he f hf b hb, hap.2.1⟩⟩
  · rcases List.mem_cons.1 he with rfl | he
    · obtain ⟨f, hf, hb⟩ := hb
      exact h.own f (List.mem_append_left _ hf) b hb
    · exact h.own e (List.mem_append_right _ he) b hb
  · rcases List.mem_cons.1 he with rfl | he
    · exact ⟨fun f hf w2 hs2 hw2 => h.ok f (List.mem_append_left _ hf) w2 (Nat.le_trans hs hs2) fun b hb => (hw2 b hb).trans (hw' b ⟨f, hf, hb⟩), hap.1⟩
    · exact h.ok e (List.mem_append_right _ he) w' hs hw'
theorem Wd.unjoin (h : Wd S w0 (Ent.join H1 :: H2) w) : Wd S w0 (H1 ++ H2) w := by
  have hap := List.pairwise_cons.1 h.apart
  have hj := h.get (k := 0) rfl
  refine ⟨h.chg, fun e he b hb => ?_, fun e he w' hs hw' => ?_, List.pairwise_append.2 ⟨hj.2, hap.2, fun e he f hf b hb => hap.1 f hf b ⟨e, he, hb⟩⟩⟩
  · rcases List.mem_append.1 he with he | he
    · exact h.own (Ent.join H1) (by simp) b ⟨e, he, hb⟩
    · exact h.own e (List.mem_cons_of_mem _ he) b hb
  · rcases List.mem_append.1 he with he | he
    · exact hj.1 e he w' hs hw'
    · exact h.ok e (List.mem_cons_of_mem _ he) w' hs hw'
theorem g_joinH (k : G N ds S w0 L (Ent.join H1 :: H2) p) : G N ds S w0 L (H1 ++ H2) p := fun a w hS => k a w ⟨hS.fr, hS.wd.join⟩
theorem g_unjoin (k : G N ds S w0 L (H1 ++ H2) p) : G N ds S w0 L (Ent.join H1 :: H2) p := fun a w hS => k a w ⟨hS.fr, hS.wd.unjoin⟩
end

/-! ### Rows -/
def vlC (v : LVal) : List Value := [.bool v.reg, .int .i64 v.n]
structure PRow where
  dst : Int
  a : Option Addr
  c : Nat
  l : List LVal
structure IRow where
  x : LIns
  a : Option Addr
  c : Nat
structure BRow where
  pa : Option Addr
  pc : Nat
  ps : List PRow
  la : Option Addr
  lc : Nat
  xs : List IRow
  kind : Int
  on : LVal
  ta : Option Addr
  tc : Nat
  to : List Int
def PRow.phi (p : PRow) : LPhi := ⟨p.dst, p.l⟩
def BRow.blk (b : BRow) : LBlock := ⟨b.ps.map PRow.phi, b.xs.map (·.x), b.kind, b.on, b.to⟩
def phiC (p : PRow) : List Value := [.int .i64 p.dst, .slice p.a p.l.length p.c]
def rowC (i : IRow) : List Value := [.int .i64 i.x.op, .int .i64 i.x.dst, .bool i.x.a.reg, .int .i64 i.x.a.n, .bool i.x.b.reg, .int .i64 i.x.b.n, .int .i64 i.x.fn, .slice i.a i.x.args.length i.c]
def blkC (b : BRow) : List Value := [.slice b.pa b.ps.length b.pc, .slice b.la b.xs.length b.lc, .int .i64 b.kind, .bool b.on.reg, .int .i64 b.on.n, .slice b.ta b.to.length b.tc]
def phE (p : PRow) : Ent := Ent.vec p.a p.l.length p.c 42 2 (p.l.flatMap vlC)
def roE (i : IRow) : Ent := Ent.vec i.a i.x.args.length i.c 42 2 (i.x.args.flatMap vlC)
def blkPs (b : BRow) : List Ent := Ent.vec b.pa b.ps.length b.pc 112 2 (b.ps.flatMap phiC) :: Ent.vec b.la b.xs.length b.lc 54 8 (b.xs.flatMap rowC) :: Ent.vec b.ta b.to.length b.tc 3 1 (b.to.map (.int .i64)) :: (b.ps.map phE ++ b.xs.map roE)
def blkE (b : BRow) : Ent := Ent.join (blkPs b)
/-- read by rows -/
def PhiC (_ : World) (p : PRow) (cs : List Value) : Prop := cs = phiC p
def RowC (_ : World) (i : IRow) (cs : List Value) : Prop := cs = rowC i
def BlkC (_ : World) (b : BRow) (cs : List Value) : Prop := cs = blkC b
def ValC (_ : World) (v : LVal) (cs : List Value) : Prop := cs = vlC v
theorem slAt_pick {α β : Type} {w : World} {a : Option Addr} {n c s : Nat} {l : List α} {V : World → α → List Value → Prop} {U : World → β → List Value → Prop} {q : α → β → Prop} (h : SlAt w (.slice a n c) s l V) (hp : ∀ x ∈ l, ∀ cs, V w x cs → ∃ y, U w y cs ∧ q x y) :
    ∃ m : List β, m.length = l.length ∧ SlAt w (.slice a n c) s m U ∧ ∀ (i : Nat) x, l[i]? = some x → ∃ y, m[i]? = some y ∧ q x y := by
  obtain ⟨hn, hnc, hb, b, o, ha, hel⟩ := h.at
  obtain ⟨_, _, _, _, _, e, _, _, _, hc63, _⟩ := id h
  simp only [Value.slice.injEq] at e
  obtain ⟨ys, hyl, hys⟩ := list_pick (p := fun i x y => ∃ cs, CellsAt w b (o + i * s) cs ∧ U w y cs ∧ q x y) l fun i x hx => by
    obtain ⟨cs, hc, hv⟩ := hel i x hx
    obtain ⟨y, h1, h2⟩ := hp x (List.mem_of_getElem? hx) cs hv
    exact ⟨y, cs, hc, h1, h2⟩
  refine ⟨ys, hyl, ⟨a, n, c, b, o, rfl, by omega, hnc, hb, by omega, fun hne => ha fun e => hne (List.eq_nil_of_length_eq_zero (by rw [hyl, e]; rfl)), fun i y hy => ?_⟩, fun i x hx => ?_⟩
  · have hil : i < l.length := by rw [← hyl]; exact (List.getElem?_eq_some_iff.1 hy).1
    obtain ⟨y', hy', cs, hc, hu, _⟩ := hys i l[i] (List.getElem?_eq_getElem hil)
    rw [hy] at hy'
    obtain rfl := Option.some.inj hy'
    exact ⟨cs, hc, hu⟩
  · obtain ⟨y, hy, cs, _, _, hq⟩ := hys i x hx
    exact ⟨y, hy, hq⟩
theorem map_pick {α β : Type} {f : β → α} {l : List α} {m : List β} (hl : m.length = l.length) (h : ∀ (i : Nat) x, l[i]? = some x → ∃ y, m[i]? = some y ∧ f y = x) : m.map f = l := by
  apply List.ext_getElem?
  intro i
  by_cases hi : i < l.length
  · obtain ⟨y, hy, e⟩ := h i l[i] (List.getElem?_eq_getElem hi)
    rw [List.getElem?_map, hy, List.getElem?_eq_getElem hi, ← e]; rfl
  · rw [List.getElem?_eq_none (by simp; omega), List.getElem?_eq_none (by omega)]
/-- a block that is read, by rows -/
theorem phi_rows {w : World} {v : Value} {l : List LPhi} (h : SlAt w v 2 l PhiV) : ∃ (a : Option Addr) (c : Nat) (ps : List PRow), v = .slice a ps.length c ∧ ps.map PRow.phi = l ∧ SlAt w v 2 ps PhiC ∧ ∀ p ∈ ps, inI p.dst ∧ SlAt w (.slice p.a p.l.length p.c) 2 p.l ValV := by
  obtain ⟨a, n, c, b, o, rfl, hn, _⟩ := id h
  obtain ⟨m, hml, hsl, hq⟩ := slAt_pick (U := PhiC) (q := fun x y => PRow.phi y = x ∧ inI y.dst ∧ SlAt w (.slice y.a y.l.length y.c) 2 y.l ValV) h fun x _ cs ⟨v, e, hd, hs⟩ => by
    have hs0 := hs
    obtain ⟨a', n', c', _, _, rfl, hn', _⟩ := hs0
    subst hn'
    exact ⟨⟨x.dst, a', c', x.src⟩, e, rfl, hd, hs⟩
  have hmap := map_pick (f := PRow.phi) hml fun i x hx => by
    obtain ⟨y, hy, e, _⟩ := hq i x hx
    exact ⟨y, hy, e⟩
  refine ⟨a, c, m, by rw [hml, hn], hmap, hsl, fun p hp => ?_⟩
  obtain ⟨i, hi⟩ := List.getElem?_of_mem hp
  obtain ⟨y, hy, _, h2⟩ := hq i (l[i]'(by rw [← hml]; exact (List.getElem?_eq_some_iff.1 hi).1)) (List.getElem?_eq_getElem _)
  rw [hi] at hy
  obtain rfl := Option.some.inj hy
  exact h2
theorem ins_rows {w : World} {v : Value} {l : List LIns} (h : SlAt w v 8 l InsV) : ∃ (a : Option Addr) (c : Nat) (xs : List IRow), v = .slice a xs.length c ∧ xs.map (·.x) = l ∧ SlAt w v 8 xs RowC ∧ ∀ i ∈ xs, (inI i.x.op ∧ inI i.x.dst ∧ inI i.x.a.n ∧ inI i.x.b.n ∧ inI i.x.fn) ∧ SlAt w (.slice i.a i.x.args.length i.c) 2 i.x.args ValV := by
  obtain ⟨a, n, c, b, o, rfl, hn, _⟩ := id h
  obtain ⟨m, hml, hsl, hq⟩ := slAt_pick (U := RowC) (q := fun x y => y.x = x ∧ (inI y.x.op ∧ inI y.x.dst ∧ inI y.x.a.n ∧ inI y.x.b.n ∧ inI y.x.fn) ∧ SlAt w (.slice y.a y.x.args.length y.c) 2 y.x.args ValV) h fun x _ cs ⟨v, e, h1, h2, h3, h4, h5, hs⟩ => by
    have hs0 := hs
    obtain ⟨a', n', c', _, _, rfl, hn', _⟩ := hs0
    subst hn'
    exact ⟨⟨x, a', c'⟩, e, rfl, ⟨h1, h2, h3, h4, h5⟩, hs⟩
  have hmap := map_pick (f := fun i : IRow => i.x) hml fun i x hx => by
    obtain ⟨y, hy, e, _⟩ := hq i x hx
    exact ⟨y, hy, e⟩
  refine ⟨a, c, m, by rw [hml, hn], hmap, hsl, fun p hp => ?_⟩
  obtain ⟨i, hi⟩ := List.getElem?_of_mem hp
  obtain ⟨y, hy, _, h2⟩ := hq i (l[i]'(by rw [← hml]; exact (List.getElem?_eq_some_iff.1 hi).1)) (List.getElem?_eq_getElem _)
  rw [hi] at hy
  obtain rfl := Option.some.inj hy
  exact h2
/-- what stands in a block, as one reads it -/
structure BlkAt (w : World) (b : BRow) : Prop where
  kind : inI b.kind
  on : inI b.on.n
  phis : SlAt w (.slice b.pa b.ps.length b.pc) 2 b.ps PhiC
  phi : ∀ p ∈ b.ps, inI p.dst ∧ SlAt w (.slice p.a p.l.length p.c) 2 p.l ValV
  list : SlAt w (.slice b.la b.xs.length b.lc) 8 b.xs RowC
  ins : ∀ i ∈ b.xs, (inI i.x.op ∧ inI i.x.dst ∧ inI i.x.a.n ∧ inI i.x.b.n ∧ inI i.x.fn) ∧ SlAt w (.slice i.a i.x.args.length i.c) 2 i.x.args ValV
  to : SlAt w (.slice b.ta b.to.length b.tc) 1 b.to IntV
theorem blk_rows {w : World} {v : Value} {l : List LBlock} (h : SlAt w v 6 l BlockV) : ∃ (a : Option Addr) (c : Nat) (bs : List BRow), v = .slice a bs.length c ∧ bs.map BRow.blk = l ∧ SlAt w v 6 bs BlkC ∧ ∀ b ∈ bs, BlkAt w b := by
  obtain ⟨a, n, c, b, o, rfl, hn, _⟩ := id h
  obtain ⟨m, hml, hsl, hq⟩ := slAt_pick (U := BlkC) (q := fun x y => BRow.blk y = x ∧ BlkAt w y) h fun x _ cs ⟨p, l, t, e, h1, h2, hp, hl, ht⟩ => by
    obtain ⟨pa, pc, ps, rfl, hp1, hp2, hp3⟩ := phi_rows hp
    obtain ⟨la, lc, xs, rfl, hl1, hl2, hl3⟩ := ins_rows hl
    have ht0 := ht
    obtain ⟨ta, tn, tc, _, _, rfl, htn, _⟩ := ht0
    subst htn
    exact ⟨⟨pa, pc, ps, la, lc, xs, x.kind, x.on, ta, tc, x.to⟩, e, by simp [BRow.blk, hp1, hl1], ⟨h1, h2, hp2, hp3, hl2, hl3, ht⟩⟩
  have hmap := map_pick (f := BRow.blk) hml fun i x hx => by
    obtain ⟨y, hy, e, _⟩ := hq i x hx
    exact ⟨y, hy, e⟩
  refine ⟨a, c, m, by rw [hml, hn], hmap, hsl, fun p hp => ?_⟩
  obtain ⟨i, hi⟩ := List.getElem?_of_mem hp
  obtain ⟨y, hy, _, h2⟩ := hq i (l[i]'(by rw [← hml]; exact (List.getElem?_eq_some_iff.1 hi).1)) (List.getElem?_eq_getElem _)
  rw [hi] at hy
  obtain rfl := Option.some.inj hy
  exact h2
/-! ### Read where it is the call's own -/
theorem slAt_un {α β : Type} {w : World} {v : Value} {s : Nat} {m : List β} {U : World → β → List Value → Prop} {V : World → α → List Value → Prop} (f : β → α) (h : SlAt w v s m U) (hv : ∀ y ∈ m, ∀ cs, U w y cs → V w (f y) cs) : SlAt w v s (m.map f) V := by
  obtain ⟨a, n, c, b, o, rfl, hn, hnc, hb, h63, ha, hel⟩ := h
  refine ⟨a, n, c, b, o, rfl, by simpa using hn, hnc, hb, h63, fun hne => ha fun e => hne (by rw [e]; rfl), fun i x hx => ?_⟩
  rw [List.getElem?_map] at hx
  obtain ⟨y, hy, rfl⟩ := Option.map_eq_some_iff.1 hx
  obtain ⟨cs, hc, hu⟩ := hel i y hy
  exact ⟨cs, hc, hv y (List.mem_of_getElem? hy) cs hu⟩
theorem flat_sl {α : Type} {S : Nat → Prop} {w0 w : World} {H : List Ent} (h : Wd S w0 H w) {k : Nat} {a : Option Addr} {c e s : Nat} {l : List α} {g : α → List Value} (hk : H[k]? = some (Ent.vec a l.length c e s (l.flatMap g))) (hg : ∀ x, (g x).length = s) (hb : l.length ≤ 100000) : SlAt w (.slice a l.length c) s l fun _ x cs => cs = g x := by
  refine h.slAt hk rfl (by omega) fun i x hx => ⟨g x, fun j v hj => flat_at hg l i x j v hx hj, rfl⟩
theorem phiC_len (p : PRow) : (phiC p).length = 2 := rfl
theorem rowC_len (i : IRow) : (rowC i).length = 8 := rfl
theorem blkC_len (b : BRow) : (blkC b).length = 6 := rfl
theorem vlC_len (v : LVal) : (vlC v).length = 2 := rfl
theorem val_sl {w : World} {v : Value} {l : List LVal} (h : SlAt w v 2 l ValC) (hb : ∀ x ∈ l, inI x.n) : SlAt w v 2 l ValV := by
  have := slAt_un (V := ValV) id h fun y hy cs hc => ⟨hc, hb y hy⟩
  rwa [List.map_id] at this
theorem val_slC {w : World} {v : Value} {l : List LVal} (h : SlAt w v 2 l ValV) : SlAt w v 2 l ValC := by
  have := slAt_un (V := ValC) id h fun y _ cs hc => hc.1
  rwa [List.map_id] at this
theorem val_in {w : World} {v : Value} {l : List LVal} (h : SlAt w v 2 l ValV) : ∀ x ∈ l, inI x.n := fun x hx => by
  obtain ⟨_, _, _, _, _, _, _, _, _, _, _, hel⟩ := h
  obtain ⟨i, hi⟩ := List.getElem?_of_mem hx
  obtain ⟨_, _, _, h2⟩ := hel i x hi
  exact h2
theorem int_in {w : World} {v : Value} {l : List Int} (h : SlAt w v 1 l IntV) : ∀ x ∈ l, inI x := fun x hx => by
  obtain ⟨_, _, _, _, _, _, _, _, _, _, _, hel⟩ := h
  obtain ⟨i, hi⟩ := List.getElem?_of_mem hx
  obtain ⟨_, _, _, h2⟩ := hel i x hi
  exact h2
/-- a block's numbers and lengths are in bounds -/
structure BRow.Bd (b : BRow) : Prop where
  kind : inI b.kind
  on : inI b.on.n
  phis : b.ps.length ≤ 1000
  phi : ∀ p ∈ b.ps, inI p.dst ∧ p.l.length ≤ 1000 ∧ ∀ v ∈ p.l, inI v.n
  list : b.xs.length ≤ 1000
  ins : ∀ i ∈ b.xs, (inI i.x.op ∧ inI i.x.dst ∧ inI i.x.a.n ∧ inI i.x.b.n ∧ inI i.x.fn) ∧ i.x.args.length ≤ 1000 ∧ ∀ v ∈ i.x.args, inI v.n
  to : b.to.length ≤ 1000 ∧ ∀ t ∈ b.to, inI t
theorem BlkAt.bd {w : World} {b : BRow} (h : BlkAt w b) (h1 : b.ps.length ≤ 1000) (h2 : ∀ p ∈ b.ps, p.l.length ≤ 1000) (h3 : b.xs.length ≤ 1000) (h4 : ∀ i ∈ b.xs, i.x.args.length ≤ 1000) (h5 : b.to.length ≤ 1000) : b.Bd :=
  ⟨h.kind, h.on, h1, fun p hp => ⟨(h.phi p hp).1, h2 p hp, val_in (h.phi p hp).2⟩, h3, fun i hi => ⟨(h.ins i hi).1, h4 i hi, val_in (h.ins i hi).2⟩, h5, int_in h.to⟩
theorem Wd.blkAt {S : Nat → Prop} {w0 w : World} {H : List Ent} {b : BRow} (h : Wd S w0 (blkPs b ++ H) w) (hb : b.Bd) : BlkAt w b := by
  have hp : ∀ p ∈ b.ps, phE p ∈ blkPs b ++ H := fun p hp => List.mem_append_left _ (by unfold blkPs; simp only [List.mem_cons, List.mem_append, List.mem_map]; exact .inr (.inr (.inr (.inl ⟨p, hp, rfl⟩))))
  have hi : ∀ i ∈ b.xs, roE i ∈ blkPs b ++ H := fun i hi => List.mem_append_left _ (by unfold blkPs; simp only [List.mem_cons, List.mem_append, List.mem_map]; exact .inr (.inr (.inr (.inr ⟨i, hi, rfl⟩))))
  refine ⟨hb.kind, hb.on, flat_sl h (k := 0) rfl phiC_len (by have := hb.phis; omega), fun p hpm => ?_, flat_sl h (k := 1) rfl rowC_len (by have := hb.list; omega), fun i him => ?_, ?_⟩
  · obtain ⟨h1, h2, h3⟩ := hb.phi p hpm
    obtain ⟨k, hk⟩ := List.getElem?_of_mem (hp p hpm)
    exact ⟨h1, val_sl (flat_sl h hk vlC_len (by omega)) h3⟩
  · obtain ⟨h1, h2, h3⟩ := hb.ins i him
    obtain ⟨k, hk⟩ := List.getElem?_of_mem (hi i him)
    exact ⟨h1, val_sl (flat_sl h hk vlC_len (by omega)) h3⟩
  · refine h.slAt (k := 2) rfl rfl (by have := hb.to.1; omega) fun i x hx => ⟨[.int .i64 x], fun j v hj => ?_, rfl, hb.to.2 x (List.mem_of_getElem? hx)⟩
    match j, hj with
    | 0, hj => simpa [hx] using hj
/-- rows that stand as they should read as blocks -/
theorem blk_sl {w : World} {v : Value} {bs : List BRow} (h : SlAt w v 6 bs BlkC) (hb : ∀ b ∈ bs, BlkAt w b) : SlAt w v 6 (bs.map BRow.blk) BlockV :=
  slAt_un BRow.blk h fun b hm cs hc => by
    have hB := hb b hm
    refine ⟨_, _, _, hc, hB.kind, hB.on, slAt_un PRow.phi hB.phis fun p hp cs hc => ⟨_, hc, hB.phi p hp⟩, slAt_un (fun i : IRow => i.x) hB.list fun i hi cs hc => ?_, hB.to⟩
    obtain ⟨⟨h1, h2, h3, h4, h5⟩, h6⟩ := hB.ins i hi
    exact ⟨_, hc, h1, h2, h3, h4, h5, h6⟩
theorem Wd.blocks {S : Nat → Prop} {w0 w : World} {H : List Ent} {ba : Option Addr} {bc : Nat} {bs : List BRow} (h : Wd S w0 (Ent.vec ba bs.length bc 46 6 (bs.flatMap blkC) :: (bs.map blkE ++ H)) w) (hn : bs.length ≤ 1000) (hb : ∀ b ∈ bs, b.Bd) : SlAt w (.slice ba bs.length bc) 6 (bs.map BRow.blk) BlockV := by
  refine blk_sl (flat_sl h (k := 0) rfl blkC_len (by omega)) fun b hm => ?_
  have hmem : blkE b ∈ Ent.vec ba bs.length bc 46 6 (bs.flatMap blkC) :: (bs.map blkE ++ H) := by
    simp only [List.mem_cons, List.mem_append, List.mem_map]
    exact .inr (.inl ⟨b, hm, rfl⟩)
  obtain ⟨k, hk⟩ := List.getElem?_of_mem hmem
  have h1 := (h.perm (perm_pull hk)).unjoin
  exact h1.blkAt (hb b hm)
end Go.Proofs.YtoahickmkkcneaaDoor

/- slices.Clone, at the rows of functions: what each returns. -/
namespace Go.Proofs.YtoahickmkkcneaaDoor
open Go Go.RowKit
attribute [local irreducible] wpListIn Code.wpIn Exit.then Exit.inBlock bodyPost wpQuiet wpAnyIn wpAnyH
set_option maxHeartbeats 4000000

theorem cloneInt_c (a : Option Addr) (c : Nat) (l : List Int) (hb : l.length ≤ 100000) (w0 : World) (h : SlAt w0 (.slice a l.length c) 1 l IntV) :
    Ret Tryd.prog 116 [.slice a l.length c] w0 fun u w' => ∃ x : Option Addr × Nat, u = .slice x.1 l.length x.2 ∧ Wd NoS w0 [Ent.vec x.1 l.length x.2 3 1 (l.map (.int .i64))] w' ∧ True := by
  refine ret_enter Tryd.func116 rfl Tryd.ntmps116 rfl (Wd.nil NoS w0) ?_
  repeat (first | refine g_op rfl ?_ | refine g_then ?_ | refine g_nil ?_ | refine g_region ?_ | refine g_seq ?_ | refine g_opS rfl ?_ | refine g_open ?_ | refine g_pass rfl ?_ | refine g_store ?_ | refine g_box rfl fun _ _ => ?_ | refine g_alloc rfl fun _ _ => ?_ | refine g_allocS rfl fun _ _ => ?_ | refine g_storeAgg ?_ | refine g_inBlock ?_ | refine g_block ?_ | refine g_skip ?_ | refine g_condT ?_ | refine g_condF ?_ | refine g_add rfl (by omega) (by omega) ?_ | refine g_sub rfl (by omega) (by omega) ?_ | refine g_exit ?_ | refine g_thenExit ?_ | refine g_exitHere ?_ | refine g_exitOn rfl ?_ | refine g_ret ?_ | refine g_thenRet ?_ | refine g_blockRet ?_ | refine g_passS rfl ?_ | refine g_pass0 ?_ | refine g_passU rfl ?_ | refine g_passUS rfl ?_ | refine g_storeV ?_ | refine g_build1 rfl rfl fun _ _ => ?_ | refine g_buildN rfl rfl fun _ _ => ?_ | refine g_make rfl (by omega) (by omega) fun _ _ => ?_)
  cases a with
  | none =>
    have hl0 : l = [] := by
      obtain ⟨_, _, _, b, o, ha, _⟩ := h.at
      exact Classical.byContradiction fun hn => by cases ha hn
    subst hl0
    repeat (first | refine g_op rfl ?_ | refine g_then ?_ | refine g_nil ?_ | refine g_region ?_ | refine g_seq ?_ | refine g_opS rfl ?_ | refine g_open ?_ | refine g_pass rfl ?_ | refine g_store ?_ | refine g_box rfl fun _ _ => ?_ | refine g_alloc rfl fun _ _ => ?_ | refine g_allocS rfl fun _ _ => ?_ | refine g_storeAgg ?_ | refine g_inBlock ?_ | refine g_block ?_ | refine g_skip ?_ | refine g_condT ?_ | refine g_condF ?_ | refine g_add rfl (by omega) (by omega) ?_ | refine g_sub rfl (by omega) (by omega) ?_ | refine g_exit ?_ | refine g_thenExit ?_ | refine g_exitHere ?_ | refine g_exitOn rfl ?_ | refine g_ret ?_ | refine g_thenRet ?_ | refine g_blockRet ?_ | refine g_passS rfl ?_ | refine g_pass0 ?_ | refine g_passU rfl ?_ | refine g_passUS rfl ?_ | refine g_storeV ?_ | refine g_build1 rfl rfl fun _ _ => ?_ | refine g_buildN rfl rfl fun _ _ => ?_ | refine g_make rfl (by omega) (by omega) fun _ _ => ?_)
    refine g_nilVec 3 1 ?_
    exact g_ret1 rfl fun w hw => ⟨(none, 0), rfl, hw, trivial⟩
  | some ad =>
    repeat (first | refine g_op rfl ?_ | refine g_then ?_ | refine g_nil ?_ | refine g_region ?_ | refine g_seq ?_ | refine g_opS rfl ?_ | refine g_open ?_ | refine g_pass rfl ?_ | refine g_store ?_ | refine g_box rfl fun _ _ => ?_ | refine g_alloc rfl fun _ _ => ?_ | refine g_allocS rfl fun _ _ => ?_ | refine g_storeAgg ?_ | refine g_inBlock ?_ | refine g_block ?_ | refine g_skip ?_ | refine g_condT ?_ | refine g_condF ?_ | refine g_add rfl (by omega) (by omega) ?_ | refine g_sub rfl (by omega) (by omega) ?_ | refine g_exit ?_ | refine g_thenExit ?_ | refine g_exitHere ?_ | refine g_exitOn rfl ?_ | refine g_ret ?_ | refine g_thenRet ?_ | refine g_blockRet ?_ | refine g_passS rfl ?_ | refine g_pass0 ?_ | refine g_passU rfl ?_ | refine g_passUS rfl ?_ | refine g_storeV ?_ | refine g_build1 rfl rfl fun _ _ => ?_ | refine g_buildN rfl rfl fun _ _ => ?_ | refine g_make rfl (by omega) (by omega) fun _ _ => ?_)
    refine g_build0 rfl fun eb _ => ?_
    repeat (first | refine g_op rfl ?_ | refine g_then ?_ | refine g_nil ?_ | refine g_region ?_ | refine g_seq ?_ | refine g_opS rfl ?_ | refine g_open ?_ | refine g_pass rfl ?_ | refine g_store ?_ | refine g_box rfl fun _ _ => ?_ | refine g_alloc rfl fun _ _ => ?_ | refine g_allocS rfl fun _ _ => ?_ | refine g_storeAgg ?_ | refine g_inBlock ?_ | refine g_block ?_ | refine g_skip ?_ | refine g_condT ?_ | refine g_condF ?_ | refine g_add rfl (by omega) (by omega) ?_ | refine g_sub rfl (by omega) (by omega) ?_ | refine g_exit ?_ | refine g_thenExit ?_ | refine g_exitHere ?_ | refine g_exitOn rfl ?_ | refine g_ret ?_ | refine g_thenRet ?_ | refine g_blockRet ?_ | refine g_passS rfl ?_ | refine g_pass0 ?_ | refine g_passU rfl ?_ | refine g_passUS rfl ?_ | refine g_storeV ?_ | refine g_build1 rfl rfl fun _ _ => ?_ | refine g_buildN rfl rfl fun _ _ => ?_ | refine g_make rfl (by omega) (by omega) fun _ _ => ?_)
    refine g_appendF rfl rfl l (fun x => [.int .i64 x]) (fun _ _ _ h => h.1) (fun _ => rfl) (fun y u hu => by simp only [List.mem_singleton] at hu; subst hu; rfl) (fun w hw => h.keep (keeps_int) hw.chg) (by omega) (by omega) fun a' c' => ?_
    rw [flat_one, List.nil_append, Nat.zero_add]
    repeat (first | refine g_op rfl ?_ | refine g_then ?_ | refine g_nil ?_ | refine g_region ?_ | refine g_seq ?_ | refine g_opS rfl ?_ | refine g_open ?_ | refine g_pass rfl ?_ | refine g_store ?_ | refine g_box rfl fun _ _ => ?_ | refine g_alloc rfl fun _ _ => ?_ | refine g_allocS rfl fun _ _ => ?_ | refine g_storeAgg ?_ | refine g_inBlock ?_ | refine g_block ?_ | refine g_skip ?_ | refine g_condT ?_ | refine g_condF ?_ | refine g_add rfl (by omega) (by omega) ?_ | refine g_sub rfl (by omega) (by omega) ?_ | refine g_exit ?_ | refine g_thenExit ?_ | refine g_exitHere ?_ | refine g_exitOn rfl ?_ | refine g_ret ?_ | refine g_thenRet ?_ | refine g_blockRet ?_ | refine g_passS rfl ?_ | refine g_pass0 ?_ | refine g_passU rfl ?_ | refine g_passUS rfl ?_ | refine g_storeV ?_ | refine g_build1 rfl rfl fun _ _ => ?_ | refine g_buildN rfl rfl fun _ _ => ?_ | refine g_make rfl (by omega) (by omega) fun _ _ => ?_)
    exact g_ret1 rfl fun w hw => ⟨(a', c'), rfl, hw, trivial⟩
end Go.Proofs.YtoahickmkkcneaaDoor

/- A range over a function that reads old memory alone. -/
namespace Go.Proofs.YtoahickmkkcneaaDoor
open Go Go.RowKit
section
variable {P : Program} {N : Nat} {ds : List Deferred} {S : Nat → Prop} {w0 : World} {L L' : List (Nat × Value)} {H H' : List Ent} {a : Act} {w : World}
  {ops : Array Oper} {rest : List Oper} {Q : Exit → Act → World → Prop} {p : Act → World → Prop}
theorem g_rangeO {α σ : Type} {g : Operand} {ps : Array Tmp} {assign body : Code} {gf : Nat} {lb : List Value} [hg : Ev L g (.func (.func gf) #[] lb.toArray)] [eg : EnterOk P gf] (F : List Ent) (Hc : σ → List Ent) (hcl : ∀ s, CellsL (Hc s)) (xs : List α) {encs : α → Array Value}
    (hseq : ∀ w, Wd S w0 H w → SeqStopsK (FW none) 4 P gf lb.toArray encs (KeepB fun b => b < w0.heap.size ∧ ¬ S b) (fun ys => ys = xs) (fun pre => pre <+: xs) xs.length w)
    (I : List α → σ → Prop) (s0 : σ) (h0 : I [] s0) (hH : (Hc s0 ++ F).Sublist H) (hps : ∀ x, (encs x).size = ps.size)
    (L0 La : α → List (Nat × Value)) (hput : ∀ x a, Fr N ds L a → Fr N [] (L0 x) { tmps := (ps.zip (encs x)).foldl (fun t (p, v) => t.setIfInBounds p v) a.tmps, defers := [] })
    (hassign : ∀ (l : Nat) (x : α) (s : σ) (R : Ent), G N [] S w0 (L0 x) (R :: (Hc s ++ F)) (assign.wpIn (FW (some l)) 0 P (Exit.then (St N [] S w0 (La x) (R :: (Hc s ++ F))) (fun _ _ _ => False))))
    (hbody : ∀ (l : Nat) (pre : List α) (x : α) (s : σ) (R : Ent), I pre s → pre.length < xs.length → G N [] S w0 (La x) (R :: (Hc s ++ F)) (body.wpIn (FW (some l)) 0 P (Exit.then (Rnd S w0 (I (pre ++ [x])) R Hc F) (fun _ _ _ => False))))
    (k : ∀ D s, w0.heap.size ≤ D → I xs s → G N (⟨.collected D, #[]⟩ :: ds) S w0 L (Ent.mark D :: (Hc s ++ F)) (Q .normal)) : G N ds S w0 L H (Code.wpIn (FW none) 0 P (Code.rangeFunc g ps assign body) Q) := fun a w hS => by
  have hsz := hS.wd.size
  have hF : ∀ e ∈ F, ∀ b, e.fp b → b < w.heap.size := fun e he b hb => (hS.wd.own e (hH.subset (List.mem_append_right _ he)) b hb).2
  have hcell : ∀ s W, Wd S w0 (Hc s ++ F) W → ∀ r o, W.heap[r]? = some o → o.isCells = false → w.heap.size ≤ r → ¬ fps (Hc s ++ F) r := by
    rintro s W hW r o ho hn hle ⟨e, he, hb⟩
    rcases List.mem_append.1 he with he | he
    · obtain ⟨j, hj⟩ := List.getElem?_of_mem (List.mem_append_left F he)
      obtain ⟨cs, t, z, hc⟩ := ((hcl s).all e he).ok W (hW.get hj) r hb
      rw [hc] at ho
      cases ho
      cases hn
    · have := hF e he r hb; omega
  have hout : ∀ s s' W W', Wd S w0 (Hc s ++ F) W → Wd S w0 (Ent.rest (restOf w0.heap.size W (Hc s ++ F)) W :: (Hc s' ++ F)) W' → KeepsFrom w.heap.size W W' ∧ KeepB (fun b => b < w0.heap.size ∧ ¬ S b) W W' := by
    intro s s' W W' hW hW'
    obtain ⟨hs, hr⟩ := hW'.get (k := 0) rfl
    refine ⟨⟨hs, fun j o hj ho hn => ?_⟩, fun b hb => ?_⟩
    · exact (hr j ⟨by omega, (Array.getElem?_eq_some_iff.1 ho).1, hcell s W hW j o ho hn hj⟩).trans ho
    · exact (hW'.chg.block b hb.1 hb.2).trans (hW.chg.block b hb.1 hb.2).symm
  refine wpIn_deep (m := 5) ?_
  refine wpIn_rangeFunc_ownH (F := FW none) (n := 5) (w0 := w) rfl (by omega) (hg.eq _ _ _ hS.fr) trivial (fun args w => eg.run args w) (hseq w hS.wd) (fun h1 h2 b hb => (h2 b hb).trans (h1 b hb)) (fun W l o o' hl _ _ _ b hb => ?_) (Below.refl _ _) hps
    (fun pre W => ∃ s, I pre s ∧ Wd S w0 (Hc s ++ F) W) (fun _ _ _ => False) (fun pre W W' row ⟨s, hI, hW⟩ hg hr => ⟨s, hI, hW.grown hg fun r e => ?_⟩) (fun _ _ _ _ _ h => h.elim) ⟨s0, h0, hS.wd.sub hH⟩ (fun x a' _ => Fr N [] (La x) a') (fun _ _ _ _ _ _ h _ _ => h) ?_ ?_ ?_ ?_
  · have hlt : b < w.heap.size := by have := hb.1; omega
    exact World.putObj_heap_other (by omega)
  · obtain ⟨h1, o, ho, hn⟩ := hr r e
    exact ⟨by omega, hcell s W hW r o ho hn h1⟩
  · rintro l pre x W K ⟨s, hI, hW⟩ hK
    refine wpIn_deep (m := 0) ?_
    refine Code.wpIn_mono (fun e a' W' q => ?_) (hassign l x s _ _ W ⟨hput x a hS.fr, hW.withRest⟩)
    cases e with
    | normal =>
      have ho := hout s s W W' hW q.wd
      exact hK a' W' ho.1 ho.2 ⟨s, hI, q.wd.sub (List.sublist_cons_self _ _)⟩ q.fr
    | _ => exact q.elim
  · rintro l pre x a' W _ _ ⟨s, hI, hW⟩ ha hlt
    refine wpIn_deep (m := 0) ?_
    refine Code.wpIn_mono (fun e a' W' q => ?_) (hbody l pre x s _ hI hlt a' W ⟨ha, hW.withRest⟩)
    cases e with
    | normal =>
      obtain ⟨s', hI', hW'⟩ := q
      have ho := hout s s' W W' hW hW'
      exact ⟨ho.1, ho.2, s', hI', hW'.sub (List.sublist_cons_self _ _)⟩
    | _ => exact q.elim
  · rintro D ys W hD rfl ⟨s, hI, hW⟩ hd
    refine k D s (by omega) hI _ W ⟨⟨hS.fr.size, by rw [hS.fr.defers], hS.fr.slot⟩, ?_⟩
    have hn : ¬ fps (Hc s ++ F) D := hcell s W hW D _ hd rfl hD
    exact ⟨hW.chg, fun e he b hb => by
      rcases List.mem_cons.1 he with rfl | he
      · cases hb
        exact ⟨.inr (by omega), (Array.getElem?_eq_some_iff.1 hd).1⟩
      · exact hW.own e he b hb, fun e he w2 hs hw2 => by
      rcases List.mem_cons.1 he with rfl | he
      · exact (hw2 D rfl).trans hd
      · exact hW.ok e he w2 hs hw2, List.pairwise_cons.2 ⟨fun f hf b hb hfb => by cases hb; exact hn ⟨f, hf, hfb⟩, hW.apart⟩⟩
  · intro D c pre W _ _ h
    exact h.elim
end
end Go.Proofs.YtoahickmkkcneaaDoor

/- Ways on and back in the order of blocks, as plain facts. No program in sight. -/
namespace Go.Proofs.YtoahickmkkcneaaDoor
open Go Go.RowKit

theorem dfs_new (bl : List LBlock) (hok : GoodB bl) : ∀ (f b : Nat) (st : List Bool × List Nat), st.1[b]? = some false →
    ∃ N, (dfs bl f b st).2 = st.2 ++ N ∧ ∀ x, st.1[x]? = some false → (dfs bl f b st).1[x]? = some true → x ∈ N
  | 0, b, st, hb => ⟨[], by simp [dfs], fun x h1 h2 => by rw [show (dfs bl 0 b st).1 = st.1 from rfl, h1] at h2; cases h2⟩
  | f + 1, b, st, hb => by
    have key : ∀ (l : List Nat) (st1 : List Bool × List Nat), ∃ N, (l.foldl (vstep bl f) st1).2 = st1.2 ++ N ∧ ∀ x, st1.1[x]? = some false → (l.foldl (vstep bl f) st1).1[x]? = some true → x ∈ N := by
      intro l
      induction l with
      | nil => exact fun st1 => ⟨[], by simp, fun x h1 h2 => by rw [List.foldl_nil, h1] at h2; cases h2⟩
      | cons t l ih =>
        intro st1
        simp only [List.foldl_cons]
        obtain ⟨N2, h1, h2⟩ := ih (vstep bl f st1 t)
        rcases vstep_cases (bl := bl) (f := f) (t := t) (st := st1) with e | ⟨hf, e⟩
        · rw [e] at h1 h2 ⊢
          exact ⟨N2, h1, h2⟩
        · obtain ⟨N1, g1, g2⟩ := dfs_new bl hok f t st1 hf
          rw [e] at h1 h2 ⊢
          refine ⟨N1 ++ N2, by rw [h1, g1, List.append_assoc], fun x hx hs => ?_⟩
          cases hq : (dfs bl f t st1).1[x]? with
          | none =>
            have h5 := (dfs_grows bl f t st1 hf).1
            have h6 := (List.getElem?_eq_some_iff.1 hx).1
            rw [List.getElem?_eq_none_iff] at hq
            omega
          | some v =>
            cases v with
            | true => exact List.mem_append_left _ (g2 x hx hq)
            | false => exact List.mem_append_right _ (h2 x hq hs)
    obtain ⟨N, h1, h2⟩ := key ((toOf bl b).reverse.map Int.toNat) (st.1.set b true, st.2)
    rw [dfs_succ]
    refine ⟨N ++ [b], by simp only; rw [h1, List.append_assoc], fun x hx hs => ?_⟩
    by_cases e : b = x
    · subst e; simp
    · exact List.mem_append_left _ (h2 x (by simp only; rw [List.getElem?_set, if_neg e]; exact hx) hs)
/-- an edge leads to what was seen before, or was left before, or whence one comes -/
theorem dfs_edges (bl : List LBlock) (hok : GoodB bl) : ∀ (f b : Nat) (st : List Bool × List Nat), st.1.length = bl.length → st.1[b]? = some false → unseen st.1 ≤ f →
    ∃ N, (dfs bl f b st).2 = st.2 ++ N ∧ ∀ (i u : Nat), N[i]? = some u → ∀ t, Edge bl u t → st.1[t]? = some true ∨ (∃ j, j < i ∧ N[j]? = some t) ∨ Rch bl (-1) t u
  | 0, b, st, _, hb, hu => by have := unseen_pos hb; omega
  | f + 1, b, st, hl, hb, hu => by
    have hus := unseen_set hb
    have hlt := (List.getElem?_eq_some_iff.1 hb).1
    have key : ∀ (l : List Nat) (st1 : List Bool × List Nat), Grows (st.1.set b true, st.2) st1 →
        ∃ N, (l.foldl (vstep bl f) st1).2 = st1.2 ++ N ∧ (∀ x ∈ N, (l.foldl (vstep bl f) st1).1[x]? = some true ∧ st1.1[x]? = some false) ∧ (∀ x, st1.1[x]? = some false → (l.foldl (vstep bl f) st1).1[x]? = some true → x ∈ N) ∧ ∀ (i u : Nat), N[i]? = some u → ∀ t, Edge bl u t → st1.1[t]? = some true ∨ (∃ j, j < i ∧ N[j]? = some t) ∨ Rch bl (-1) t u := by
      intro l
      induction l with
      | nil => exact fun st1 _ => ⟨[], by simp, by simp, (fun x h1 h2 => by rw [List.foldl_nil, h1] at h2; cases h2), by simp⟩
      | cons t l ih =>
        intro st1 hg
        simp only [List.foldl_cons]
        have hl1 : st1.1.length = bl.length := by have := hg.1; simp at this; omega
        have hu1 : unseen st1.1 ≤ f := by have := hg.2.2.1; simp only at this; omega
        rcases vstep_cases (bl := bl) (f := f) (t := t) (st := st1) with e | ⟨hf, e⟩
        · rw [e]; exact ih st1 hg
        · have hgs := dfs_grows bl f t st1 hf
          obtain ⟨N2, h1, h2, h3, h4⟩ := ih (vstep bl f st1 t) (by rw [e]; exact hg.trans hgs)
          obtain ⟨N1, g1, g2⟩ := dfs_edges bl hok f t st1 hl1 hf hu1
          obtain ⟨N1', g1', g3⟩ := dfs_new bl hok f t st1 hf
          obtain rfl : N1 = N1' := List.append_cancel_left (g1.symm.trans g1')
          obtain ⟨N1'', g1'', _, g5, _⟩ := dfs_seg bl hok f t st1 hf
          obtain rfl : N1 = N1'' := List.append_cancel_left (g1.symm.trans g1'')
          rw [e] at h1 h2 h3 h4 ⊢
          have hcase : ∀ x : Nat, st1.1[x]? = some false → (dfs bl f t st1).1[x]? = some true ∨ (dfs bl f t st1).1[x]? = some false := fun x hx => by
            cases hq : (dfs bl f t st1).1[x]? with
            | none =>
              have h5 := hgs.1
              have h6 := (List.getElem?_eq_some_iff.1 hx).1
              rw [List.getElem?_eq_none_iff] at hq
              omega
            | some v => cases v <;> simp
          refine ⟨N1 ++ N2, by rw [h1, g1, List.append_assoc], fun x hx => ?_, fun x hx hs => ?_, fun i u hi y hy => ?_⟩
          · rcases List.mem_append.1 hx with hx | hx
            · exact ⟨(vsteps_grows bl f _ l).2.1 x (g5 x hx).2, (g5 x hx).1⟩
            · refine ⟨(h2 x hx).1, ?_⟩
              have h7 := (h2 x hx).2
              cases hq : st1.1[x]? with
              | none =>
                have h5 := hgs.1
                have h6 := (List.getElem?_eq_some_iff.1 h7).1
                rw [List.getElem?_eq_none_iff] at hq
                omega
              | some v =>
                cases v with
                | false => rfl
                | true => rw [hgs.2.1 x hq] at h7; cases h7
          · rcases hcase x hx with h | h
            · exact List.mem_append_left _ (g3 x hx h)
            · exact List.mem_append_right _ (h3 x h hs)
          · by_cases hin : i < N1.length
            · rw [List.getElem?_append_left hin] at hi
              rcases g2 i u hi y hy with h | ⟨j, hj, hjy⟩ | h
              · exact .inl h
              · exact .inr (.inl ⟨j, hj, by rw [List.getElem?_append_left (by omega)]; exact hjy⟩)
              · exact .inr (.inr h)
            · rw [List.getElem?_append_right (by omega)] at hi
              rcases h4 _ u hi y hy with h | ⟨j, hj, hjy⟩ | h
              · cases hq : st1.1[y]? with
                | none =>
                  have h5 := hgs.1
                  have h6 := (List.getElem?_eq_some_iff.1 h).1
                  rw [List.getElem?_eq_none_iff] at hq
                  omega
                | some v =>
                  cases v with
                  | true => exact .inl rfl
                  | false =>
                    obtain ⟨j, hj⟩ := List.getElem?_of_mem (g3 y hq h)
                    have := (List.getElem?_eq_some_iff.1 hj).1
                    exact .inr (.inl ⟨j, by omega, by rw [List.getElem?_append_left this]; exact hj⟩)
              · refine .inr (.inl ⟨N1.length + j, by omega, ?_⟩)
                rw [List.getElem?_append_right (by omega), show N1.length + j - N1.length = j by omega]
                exact hjy
              · exact .inr (.inr h)
    obtain ⟨N, h1, h2, h3, h4⟩ := key ((toOf bl b).reverse.map Int.toNat) (st.1.set b true, st.2) (Grows.refl _)
    have hcl := dfs_closed bl hok (f + 1) b st hl hb hu b (dfs_self bl f b st hb)
    have hso := (dfs_sound bl hok (f + 1) b st hb).1
    rw [dfs_succ] at hcl hso ⊢
    have hsee : ∀ t, Edge bl b t → (((toOf bl b).reverse.map Int.toNat).foldl (vstep bl f) (st.1.set b true, st.2)).1[t]? = some true := by
      rcases hcl with h | h
      · rw [hb] at h; cases h
      · exact h
    have hset : ∀ t, (st.1.set b true)[t]? = some true → t = b ∨ st.1[t]? = some true := fun t ht => by
      rw [List.getElem?_set] at ht
      by_cases e : b = t
      · exact .inl e.symm
      · rw [if_neg e] at ht; exact .inr ht
    refine ⟨N ++ [b], by simp only; rw [h1, List.append_assoc], fun i u hi t ht => ?_⟩
    by_cases hin : i < N.length
    · rw [List.getElem?_append_left hin] at hi
      rcases h4 i u hi t ht with h | ⟨j, hj, hjt⟩ | h
      · rcases hset t h with e | h
        · subst e
          have hu2 := h2 u (List.mem_of_getElem? hi)
          rcases hso u hu2.1 with h5 | h5
          · have h6 := hu2.2
            simp only at h6
            rw [List.getElem?_set] at h6
            by_cases e : t = u
            · subst e; rw [if_pos rfl, if_pos hlt] at h6; cases h6
            · rw [if_neg e, h5] at h6; cases h6
          · exact .inr (.inr h5)
        · exact .inl h
      · exact .inr (.inl ⟨j, hj, by rw [List.getElem?_append_left (by omega)]; exact hjt⟩)
      · exact .inr (.inr h)
    · have hlen := (List.getElem?_eq_some_iff.1 hi).1
      rw [List.length_append, List.length_singleton] at hlen
      rw [List.getElem?_append_right (by omega), show i - N.length = 0 by omega] at hi
      obtain rfl : b = u := by simpa using hi
      by_cases e : t = b
      · subst e; exact .inr (.inr .refl)
      have hs := hsee t ht
      cases hq : st.1[t]? with
      | none =>
        have h5 := (vsteps_grows bl f (st.1.set b true, st.2) ((toOf bl b).reverse.map Int.toNat)).1
        have h6 := (List.getElem?_eq_some_iff.1 hs).1
        rw [List.getElem?_eq_none_iff] at hq
        simp only [List.length_set] at h5
        omega
      | some v =>
        cases v with
        | true => exact .inl rfl
        | false =>
          have := h3 t (by simp only; rw [List.getElem?_set, if_neg (Ne.symm e)]; exact hq) hs
          obtain ⟨j, hj⟩ := List.getElem?_of_mem this
          have hjl := (List.getElem?_eq_some_iff.1 hj).1
          exact .inr (.inl ⟨j, by omega, by rw [List.getElem?_append_left hjl]; exact hj⟩)
/-- an edge that does not go on comes back to whence one came -/
theorem back_rch {bl : List LBlock} (hok : GoodB bl) (h0 : 0 < bl.length) {u t : Nat} (hu : u ∈ orderL bl) (he : Edge bl u t) (hr : rk (orderL bl) t ≤ rk (orderL bl) u) : Rch bl (-1) t u := by
  have ho := orderL_ord hok h0
  obtain ⟨N, h1, h2⟩ := dfs_edges bl hok bl.length 0 (List.replicate bl.length false, []) (by simp) (by simp [h0]) (by rw [unseen_all]; exact Nat.le_refl _)
  have e : postL bl = N := by unfold postL; rw [h1]; rfl
  subst e
  have hgu := get_rk hu
  have hul := (List.getElem?_eq_some_iff.1 hgu).1
  have hpl : (orderL bl).length = (postL bl).length := by unfold orderL; rw [List.length_reverse]
  generalize rk (orderL bl) u = k at *
  have hgu' : (postL bl)[(postL bl).length - 1 - k]? = some u := by
    have := hgu
    unfold orderL at this
    rw [List.getElem?_reverse (by omega)] at this
    exact this
  rcases h2 _ u hgu' t he with h | ⟨j, hj, hjt⟩ | h
  · simp only [List.getElem?_replicate] at h
    split at h <;> simp at h
  · exfalso
    have hjl := (List.getElem?_eq_some_iff.1 hjt).1
    have : (orderL bl)[(postL bl).length - 1 - j]? = some t := by
      unfold orderL
      rw [List.getElem?_reverse (by omega), show (postL bl).length - 1 - ((postL bl).length - 1 - j) = j by omega]
      exact hjt
    have := rk_get ho.nodup this
    omega
  · exact h
/-- with no edge back one goes on only -/
theorem on_only {bl : List LBlock} {l : List Nat} (ho : Ord bl l) (hno : ∀ u t, u ∈ l → Edge bl u t → rk l u < rk l t) {a x : Nat} (ha : a ∈ l) (h : Rch bl (-1) a x) : x ∈ l ∧ rk l a ≤ rk l x ∧ (rk l a = rk l x → a = x) := by
  induction h with
  | refl => exact ⟨ha, Nat.le_refl _, fun _ => rfl⟩
  | @step y z hy he _ ih =>
    have hlt := hno y z ih.1 he
    refine ⟨(ho.mem z).2 (((ho.mem y).1 ih.1).step he (by omega)), by omega, fun e => by omega⟩
end Go.Proofs.YtoahickmkkcneaaDoor

/- Loops, as plain facts. No program in sight. -/
namespace Go.Proofs.YtoahickmkkcneaaDoor
open Go Go.RowKit

/-- an edge that does not go on -/
def BackE (bl : List LBlock) (u t : Nat) : Prop := Rch bl (-1) 0 u ∧ Edge bl u t ∧ rk (orderL bl) t ≤ rk (orderL bl) u
/-- of the loop with head h, by some tails -/
def InT (bl : List LBlock) (h : Nat) (ts : List Nat) (x : Nat) : Prop := ∃ t ∈ ts, x = h ∨ (x ≠ h ∧ Rch bl (-1) 0 x ∧ Rch bl h x t)
theorem Rch.cons {bl : List LBlock} {wo : Int} {a b c : Nat} (he : Edge bl a b) (hw : (b : Int) ≠ wo) (h : Rch bl wo b c) : Rch bl wo a c := (Rch.refl.step he hw).trans h
/-- the last block of a way that is not its begin is not left out -/
theorem Rch.ends {bl : List LBlock} {wo : Int} {a c : Nat} (h : Rch bl wo a c) (ha : (a : Int) ≠ wo) : (c : Int) ≠ wo := by
  cases h with
  | refl => exact ha
  | step _ _ hw => exact hw
/-- from the end backwards -/
theorem rch_back {bl : List LBlock} {wo : Int} {c : Nat} {p : Nat → Prop} (h0 : p c) (hs : ∀ x y, Edge bl x y → (y : Int) ≠ wo → p y → p x) {a : Nat} (h : Rch bl wo a c) : p a := by
  have key : ∀ x, Rch bl wo a x → (p x → p a) := by
    intro x hx
    induction hx with
    | refl => exact id
    | step _ he hw ih => exact fun hp => ih (hs _ _ he hw hp)
  exact key c h h0
/-- a row of blocks that are still to be looked at; 'inn': those that are in -/
structure LRow (bl : List LBlock) (h : Nat) (ts : List Nat) (row inn : List Int) : Prop where
  nodup : inn.Nodup
  sound : ∀ x ∈ inn ++ row, ∃ c : Nat, x = c ∧ Rch bl (-1) 0 c ∧ InT bl h ts c
  done : ∀ b : Nat, (b : Int) ∈ inn → b ≠ h → ∀ a : Nat, Rch bl (-1) 0 a → Edge bl a b → (a : Int) ∈ inn ++ row
  has : ∀ t ∈ ts, (t : Int) ∈ inn ++ row
  head : ts ≠ [] → (h : Int) ∈ inn ++ row
theorem LRow.mem {bl : List LBlock} {h : Nat} {ts : List Nat} {inn : List Int} (hL : LRow bl h ts [] inn) (_hts : ∀ t ∈ ts, Rch bl (-1) 0 t) (x : Int) : x ∈ inn ↔ ∃ c : Nat, x = c ∧ InT bl h ts c := by
  have e : ∀ y, y ∈ inn ++ ([] : List Int) ↔ y ∈ inn := fun y => by simp
  constructor
  · intro hx
    obtain ⟨c, h1, _, h2⟩ := hL.sound x ((e x).2 hx)
    exact ⟨c, h1, h2⟩
  · rintro ⟨c, rfl, t, ht, hc⟩
    have hth := (e _).1 (hL.has t ht)
    have hhd := (e _).1 (hL.head (List.ne_nil_of_mem ht))
    rcases hc with rfl | ⟨hne, hr, hw⟩
    · exact hhd
    · have key := rch_back (p := fun x => x = h ∨ ¬ Rch bl (-1) 0 x ∨ (x : Int) ∈ inn) (.inr (.inr hth)) (fun x y he hw hy => ?_) hw
      · rcases key with k | k | k
        · exact absurd k hne
        · exact absurd hr k
        · exact k
      · by_cases hx0 : Rch bl (-1) 0 x
        · have hy0 : Rch bl (-1) 0 y := hx0.step he (by omega)
          rcases hy with k | k | k
          · exact absurd (by omega) hw
          · exact absurd hy0 k
          · have := hL.done y k (fun e => hw (by omega)) x hx0 he
            exact .inr (.inr ((e _).1 this))
        · exact .inr (.inl hx0)
/-- a tail more -/
theorem LRow.more {bl : List LBlock} {h : Nat} {ts : List Nat} {inn : List Int} {t : Nat} (hL : LRow bl h ts [] inn) (hh : Rch bl (-1) 0 h) (ht : Rch bl (-1) 0 t) : LRow bl h (ts ++ [t]) [(h : Int), (t : Int)] inn := by
  have up : ∀ {c}, InT bl h ts c → InT bl h (ts ++ [t]) c := fun ⟨s, hs, k⟩ => ⟨s, List.mem_append_left _ hs, k⟩
  refine ⟨hL.nodup, fun x hx => ?_, fun b hb hne a ha he => ?_, fun s hs => ?_, fun _ => by simp⟩
  · rcases List.mem_append.1 hx with hx | hx
    · obtain ⟨c, h1, h2, h3⟩ := hL.sound x (by simpa using hx)
      exact ⟨c, h1, h2, up h3⟩
    · simp only [List.mem_cons, List.not_mem_nil, or_false] at hx
      rcases hx with rfl | rfl
      · exact ⟨h, rfl, hh, t, by simp, .inl rfl⟩
      · by_cases e : t = h
        · exact ⟨t, rfl, ht, t, by simp, .inl e⟩
        · exact ⟨t, rfl, ht, t, by simp, .inr ⟨e, ht, .refl⟩⟩
  · have := hL.done b hb hne a ha he
    exact List.mem_append_left _ (by simpa using this)
  · rcases List.mem_append.1 hs with hs | hs
    · have := hL.has s hs
      exact List.mem_append_left _ (by simpa using this)
    · rw [List.mem_singleton.1 hs]; simp
theorem LRow.skip {bl : List LBlock} {h : Nat} {ts : List Nat} {row inn : List Int} {b : Int} (hL : LRow bl h ts (b :: row) inn) (hb : b ∈ inn) : LRow bl h ts row inn := by
  have e : ∀ {y}, y ∈ inn ++ (b :: row) → y ∈ inn ++ row := fun {y} hy => by
    rcases List.mem_append.1 hy with h | h
    · exact List.mem_append_left _ h
    · rcases List.mem_cons.1 h with h | h
      · subst h; exact List.mem_append_left _ hb
      · exact List.mem_append_right _ h
  exact ⟨hL.nodup, fun x hx => hL.sound x ((List.mem_append.1 hx).elim (List.mem_append_left _) fun h => List.mem_append_right _ (List.mem_cons_of_mem _ h)), fun b hb hne a ha he => e (hL.done b hb hne a ha he), fun t ht => e (hL.has t ht), fun hn => e (hL.head hn)⟩
/-- one more is in: the head, or with those ahead of it that are reached -/
theorem LRow.add {bl : List LBlock} {h : Nat} {ts : List Nat} {row inn ps : List Int} {b : Nat} (hL : LRow bl h ts ((b : Int) :: row) inn) (hb : (b : Int) ∉ inn) (hps : b ≠ h → ∀ x, x ∈ ps ↔ ∃ a : Nat, x = a ∧ Rch bl (-1) 0 a ∧ Edge bl a b) (hph : b = h → ps = []) :
    LRow bl h ts (row ++ ps) (inn ++ [(b : Int)]) := by
  have hsb := hL.sound (b : Int) (by simp)
  have e : ∀ {y}, y ∈ inn ++ ((b : Int) :: row) → y ∈ (inn ++ [(b : Int)]) ++ (row ++ ps) := fun {y} hy => by
    simp only [List.mem_append, List.mem_cons, List.not_mem_nil, or_false] at hy ⊢
    rcases hy with h | h | h
    · exact .inl (.inl h)
    · exact .inl (.inr h)
    · exact .inr (.inl h)
  refine ⟨List.nodup_append.2 ⟨hL.nodup, by simp, fun a ha c hc e => hb (by rw [List.mem_singleton.1 hc] at e; rw [← e]; exact ha)⟩, fun x hx => ?_, fun d hd hne a ha he => ?_, fun t ht => e (hL.has t ht), fun hn => e (hL.head hn)⟩
  · simp only [List.mem_append, List.mem_cons, List.not_mem_nil, or_false] at hx
    rcases hx with (hx | hx) | (hx | hx)
    · exact hL.sound x (List.mem_append_left _ hx)
    · rw [hx]; exact hsb
    · exact hL.sound x (List.mem_append_right _ (List.mem_cons_of_mem _ hx))
    · by_cases hbh : b = h
      · rw [hph hbh] at hx; cases hx
      · obtain ⟨a, rfl, ha, he⟩ := (hps hbh x).1 hx
        obtain ⟨c, hc, _, t, ht, hin⟩ := hsb
        have hcb : b = c := by omega
        subst hcb
        rcases hin with k | ⟨_, _, k⟩
        · exact absurd k hbh
        · by_cases hah : a = h
          · exact ⟨a, rfl, ha, t, ht, .inl hah⟩
          · exact ⟨a, rfl, ha, t, ht, .inr ⟨hah, ha, k.cons he (by omega)⟩⟩
  · rcases List.mem_append.1 hd with hd | hd
    · exact e (hL.done d hd hne a ha he)
    · have hdb : d = b := by have := List.mem_singleton.1 hd; omega
      subst hdb
      exact List.mem_append_right _ (List.mem_append_right _ ((hps hne _).2 ⟨a, rfl, ha, he⟩))
theorem lrow_none (bl : List LBlock) (h : Nat) : LRow bl h [] [] [] := ⟨by simp, by simp, by simp, by simp, by simp⟩
end Go.Proofs.YtoahickmkkcneaaDoor

/- Rings, and ways back in the order, as plain facts. No program in sight. -/
namespace Go.Proofs.YtoahickmkkcneaaDoor
open Go Go.RowKit

theorem Mut.refl (bl : List LBlock) (b : Nat) : Mut bl b b := ⟨.refl, .refl⟩
theorem Mut.symm {bl : List LBlock} {a b : Nat} (h : Mut bl a b) : Mut bl b a := ⟨h.2, h.1⟩
theorem Mut.trans {bl : List LBlock} {a b c : Nat} (h : Mut bl a b) (k : Mut bl b c) : Mut bl a c := ⟨h.1.trans k.1, k.2.trans h.2⟩
theorem part_spec {bl : List LBlock} {b : Nat} (hb : b < bl.length) : partOf bl b ≤ b ∧ Mut bl b (partOf bl b) ∧ ∀ d, d < partOf bl b → ¬ Mut bl b d := by
  have key : ∀ m, m ≤ b → (∀ d, d < m → ¬ Mut bl b d) ∨ ∃ c, c < m ∧ Mut bl b c ∧ ∀ d, d < c → ¬ Mut bl b d := by
    intro m
    induction m with
    | zero => exact fun _ => .inl fun d hd => by omega
    | succ m ih =>
      intro hm
      rcases ih (by omega) with h | ⟨c, hc, h1, h2⟩
      · by_cases hk : Mut bl b m
        · exact .inr ⟨m, by omega, hk, h⟩
        · refine .inl fun d hd => ?_
          by_cases e : d = m
          · subst e; exact hk
          · exact h d (by omega)
      · exact .inr ⟨c, by omega, h1, h2⟩
  rcases key b (Nat.le_refl _) with h | ⟨c, hc, h1, h2⟩
  · rw [partOf_eq hb (Mut.refl bl b) h]; exact ⟨Nat.le_refl _, Mut.refl bl b, h⟩
  · rw [partOf_eq (by omega) h1 h2]; exact ⟨by omega, h1, h2⟩
theorem part_iff {bl : List LBlock} {a b : Nat} (ha : a < bl.length) (hb : b < bl.length) : partOf bl a = partOf bl b ↔ Mut bl a b := by
  obtain ⟨_, h1, h2⟩ := part_spec ha
  obtain ⟨_, k1, k2⟩ := part_spec hb
  constructor
  · intro e
    rw [e] at h1
    exact h1.trans k1.symm
  · intro h
    rcases Nat.lt_trichotomy (partOf bl a) (partOf bl b) with hl | he | hl
    · exact absurd (h.symm.trans h1) (k2 _ hl)
    · exact he
    · exact absurd (h.trans k1) (h2 _ hl)
theorem part_part {bl : List LBlock} {b : Nat} (hb : b < bl.length) : partOf bl (partOf bl b) = partOf bl b := by
  obtain ⟨h0, h1, _⟩ := part_spec hb
  exact (part_iff (by omega) hb).2 h1.symm
/-- who is of a ring -/
def Round (bl : List LBlock) (i : Nat) : Prop := Rch bl (-1) 0 i ∧ (Edge bl i i ∨ ∃ j, j < bl.length ∧ j ≠ i ∧ Mut bl i j)
theorem ring_back {bl : List LBlock} (hok : GoodB bl) (h0 : 0 < bl.length) : (∃ i, Round bl i) ↔ ∃ u t, BackE bl u t := by
  have ho := orderL_ord hok h0
  constructor
  · rintro ⟨i, hi, h⟩
    by_cases hx : ∃ u t, BackE bl u t
    · exact hx
    exfalso
    have hno : ∀ u t, u ∈ orderL bl → Edge bl u t → rk (orderL bl) u < rk (orderL bl) t := fun u t hu he => by
      by_cases hlt : rk (orderL bl) u < rk (orderL bl) t
      · exact hlt
      · exact absurd ⟨u, t, (ho.mem u).1 hu, he, by omega⟩ hx
    have him := (ho.mem i).2 hi
    rcases h with he | ⟨j, _, hji, hm⟩
    · have := hno i i him he; omega
    · have h1 := on_only ho hno him hm.1
      have h2 := on_only ho hno h1.1 hm.2
      exact hji (h1.2.2 (by omega)).symm
  · rintro ⟨u, t, hu, he, hr⟩
    have hb := back_rch hok h0 ((ho.mem u).2 hu) he hr
    refine ⟨u, hu, ?_⟩
    by_cases e : t = u
    · subst e; exact .inl he
    · exact .inr ⟨t, hok.edge he, e, Rch.refl.step he (by omega), hb⟩
/-- who is of a loop is of a ring -/
theorem inT_round {bl : List LBlock} (hok : GoodB bl) (h0 : 0 < bl.length) {h : Nat} {ts : List Nat} (hts : ∀ t ∈ ts, BackE bl t h ∧ Dom bl h t) {x : Nat} (hx : InT bl h ts x) : Round bl x := by
  obtain ⟨t, ht, hc⟩ := hx
  obtain ⟨hb, hd⟩ := hts t ht
  have ho := orderL_ord hok h0
  have hht := back_rch hok h0 ((ho.mem t).2 hb.1) hb.2.1 hb.2.2
  have hmt : Mut bl h t := ⟨hht, Rch.refl.step hb.2.1 (by omega)⟩
  rcases hc with rfl | ⟨hne, hr, hw⟩
  · refine ⟨hd.1, ?_⟩
    by_cases e : t = x
    · subst e; exact .inl hb.2.1
    · exact .inr ⟨t, hok.rch h0 hb.1, e, hmt⟩
  · refine ⟨hr, .inr ⟨h, hok.edge hb.2.1, Ne.symm hne, hw.all.trans hmt.2, ?_⟩⟩
    -- the head rules x: else one came to the tail without it
    by_cases hz : h = 0
    · subst hz; exact hr
    · by_cases hdx : Rch bl h 0 x
      · exfalso
        rcases hd.2.2 with e | e | e
        · subst e
          exact hw.ends (by omega) rfl
        · exact hz e
        · exact e (hdx.trans hw)
      · -- a way from 0 to x goes through h
        have key : ∀ y, Rch bl (-1) 0 y → Rch bl h 0 y ∨ Rch bl (-1) h y := by
          intro y hy
          induction hy with
          | refl => exact .inl .refl
          | @step a b _ he _ ih =>
            by_cases e : b = h
            · subst e; exact .inr .refl
            · exact ih.imp (fun k => k.step he (by omega)) fun k => k.step he (by omega)
        exact (key x hr).resolve_left hdx
end Go.Proofs.YtoahickmkkcneaaDoor

/- The pairs that go back, as a list; where each block stands in the order. No program in sight. -/
namespace Go.Proofs.YtoahickmkkcneaaDoor
open Go Go.RowKit

open Classical in
noncomputable def backRow (bl : List LBlock) (b n : Nat) : List Nat := (List.range n).filter fun t => decide (BackE bl b t)
noncomputable def backTo (bl : List LBlock) (b : Nat) : List (Nat × Nat) := (List.range b).flatMap fun b => (backRow bl b bl.length).map fun t => (b, t)
noncomputable def backL (bl : List LBlock) : List (Nat × Nat) := backTo bl bl.length
theorem backTo_succ (bl : List LBlock) (b : Nat) : backTo bl (b + 1) = backTo bl b ++ (backRow bl b bl.length).map fun t => (b, t) := by
  simp [backTo, List.range_succ, List.flatMap_append]
theorem backRow_succ (bl : List LBlock) (b n : Nat) : backRow bl b (n + 1) = backRow bl b n ++ if (open Classical in decide (BackE bl b n)) then [n] else [] := by
  classical
  unfold backRow
  rw [List.range_succ, List.filter_append]
  congr 1
  by_cases h : BackE bl b n <;> simp [h]
theorem backRow_mem {bl : List LBlock} {b n t : Nat} : t ∈ backRow bl b n ↔ t < n ∧ BackE bl b t := by
  classical
  simp [backRow]
theorem backRow_len (bl : List LBlock) (b n : Nat) : (backRow bl b n).length ≤ n := by
  classical
  have := List.length_filter_le (fun t => decide (BackE bl b t)) (List.range n)
  rwa [List.length_range] at this
theorem backTo_len (bl : List LBlock) (b : Nat) : (backTo bl b).length ≤ b * bl.length := by
  induction b with
  | zero => simp [backTo]
  | succ b ih =>
    rw [backTo_succ, List.length_append, List.length_map]
    have := backRow_len bl b bl.length
    rw [Nat.succ_mul]; omega
theorem backL_mem {bl : List LBlock} (hok : GoodB bl) (h0 : 0 < bl.length) {b t : Nat} : (b, t) ∈ backL bl ↔ BackE bl b t := by
  unfold backL backTo
  rw [List.mem_flatMap]
  constructor
  · rintro ⟨c, _, h⟩
    obtain ⟨s, hs, e⟩ := List.mem_map.1 h
    simp only [Prod.mk.injEq] at e
    obtain ⟨rfl, rfl⟩ := e
    exact (backRow_mem.1 hs).2
  · intro h
    exact ⟨b, List.mem_range.2 (hok.rch h0 h.1), List.mem_map.2 ⟨t, backRow_mem.2 ⟨hok.edge h.2.1, h⟩, rfl⟩⟩
/-- of blocks in a row that hold all that b leads to -/
theorem backRow_of {bl : List LBlock} (_hok : GoodB bl) {b : Nat} : (open Classical in ((List.range bl.length).filter fun t : Nat => decide ((t : Int) ∈ toOf bl b)).filter fun t => decide (BackE bl b t)) = backRow bl b bl.length := by
  classical
  rw [List.filter_filter]
  unfold backRow
  refine List.filter_congr fun t _ => ?_
  by_cases h : BackE bl b t
  · simp [h, show (t : Int) ∈ toOf bl b from h.2.1]
  · simp [h]
/-- where each block stands -/
def placeL (bl : List LBlock) (b : Nat) : Int := if b ∈ orderL bl then (rk (orderL bl) b : Int) else -1
def placesL (bl : List LBlock) : List Int := (List.range bl.length).map (placeL bl)
theorem placeL_back {bl : List LBlock} (hok : GoodB bl) (h0 : 0 < bl.length) {b t : Nat} (he : Edge bl b t) : (0 ≤ placeL bl b ∧ placeL bl t ≤ placeL bl b) ↔ BackE bl b t := by
  have ho := orderL_ord hok h0
  unfold placeL BackE
  by_cases hb : b ∈ orderL bl
  · have hr := (ho.mem b).1 hb
    have ht : t ∈ orderL bl := (ho.mem t).2 (hr.step he (by omega))
    rw [if_pos hb, if_pos ht]
    exact ⟨fun h => ⟨hr, he, by omega⟩, fun h => ⟨by omega, by have := h.2.2; omega⟩⟩
  · rw [if_neg hb]
    exact ⟨fun h => by omega, fun h => absurd ((ho.mem b).2 h.1) hb⟩
theorem placeL_in {bl : List LBlock} (hlen : bl.length ≤ 100) (h0 : 0 < bl.length) (b : Nat) : -1 ≤ placeL bl b ∧ placeL bl b ≤ 100 := by
  unfold placeL
  have h1 : (orderL bl).length ≤ bl.length := by unfold orderL; rw [List.length_reverse]; exact postL_len h0
  split
  · rename_i h
    have : rk (orderL bl) b < (orderL bl).length := List.idxOf_lt_length_of_mem h
    omega
  · omega
end Go.Proofs.YtoahickmkkcneaaDoor

/- The library's sort at numbers: what it does to a row of the call's own. -/
namespace Go.Proofs.YtoahickmkkcneaaDoor
open Go Go.RowKit

def sortLays_ren : Go.Shelf.Ren := ⟨fun | 125 => 113 | 128 => 144 | 129 => 145 | 189 => 76 | 215 => 154 | 216 => 141 | 257 => 112 | 294 => 135 | 295 => 136 | 296 => 137 | 297 => 138 | 298 => 139 | 299 => 140 | 300 => 142 | 301 => 143 | 328 => 149 | 329 => 150 | 330 => 151 | 331 => 152 | 332 => 153 | 343 => 155 | n => n, fun | 0 => 0 | 3 => 3 | 4 => 4 | 5 => 5 | 9 => 9 | 28 => 35 | 46 => 158 | 51 => 182 | 53 => 184 | 131 => 179 | 182 => 175 | 183 => 176 | 218 => 191 | 222 => 195 | 228 => 197 | 229 => 198 | n => n, fun n => n⟩
theorem sortLays : Go.Proofs.Lays.n189 Tryd.prog sortLays_ren where
  mixed := by kernel_rfl
  f125 := Tryd.func113.trans (congrArg some (by kernel_rfl))
  f128 := Tryd.func144.trans (congrArg some (by kernel_rfl))
  f129 := Tryd.func145.trans (congrArg some (by kernel_rfl))
  f189 := Tryd.func76.trans (congrArg some (by kernel_rfl))
  f215 := Tryd.func154.trans (congrArg some (by kernel_rfl))
  f216 := Tryd.func141.trans (congrArg some (by kernel_rfl))
  f257 := Tryd.func112.trans (congrArg some (by kernel_rfl))
  f294 := Tryd.func135.trans (congrArg some (by kernel_rfl))
  f295 := Tryd.func136.trans (congrArg some (by kernel_rfl))
  f296 := Tryd.func137.trans (congrArg some (by kernel_rfl))
  f297 := Tryd.func138.trans (congrArg some (by kernel_rfl))
  f298 := Tryd.func139.trans (congrArg some (by kernel_rfl))
  f299 := Tryd.func140.trans (congrArg some (by kernel_rfl))
  f300 := Tryd.func142.trans (congrArg some (by kernel_rfl))
  f301 := Tryd.func143.trans (congrArg some (by kernel_rfl))
  f328 := Tryd.func149.trans (congrArg some (by kernel_rfl))
  f329 := Tryd.func150.trans (congrArg some (by kernel_rfl))
  f330 := Tryd.func151.trans (congrArg some (by kernel_rfl))
  f331 := Tryd.func152.trans (congrArg some (by kernel_rfl))
  f332 := Tryd.func153.trans (congrArg some (by kernel_rfl))
  f343 := Tryd.func155.trans (congrArg some (by kernel_rfl))
  t0 := Tryd.underlying0
  a0 := Tryd.isAgg0
  z0 := Tryd.sizeOf0
  v0 := Tryd.zeroValue0
  t3 := Tryd.underlying3
  a3 := Tryd.isAgg3
  z3 := Tryd.sizeOf3
  v3 := Tryd.zeroValue3
  t4 := Tryd.underlying4
  a4 := Tryd.isAgg4
  z4 := Tryd.sizeOf4
  v4 := Tryd.zeroValue4
  t5 := Tryd.underlying5
  a5 := Tryd.isAgg5
  z5 := Tryd.sizeOf5
  v5 := Tryd.zeroValue5
  t9 := Tryd.underlying9
  a9 := Tryd.isAgg9
  z9 := Tryd.sizeOf9
  v9 := Tryd.zeroValue9
  t28 := Tryd.underlying35
  a28 := Tryd.isAgg35
  z28 := Tryd.sizeOf35
  v28 := Tryd.zeroValue35
  t46 := Tryd.underlying158
  a46 := Tryd.isAgg158
  z46 := Tryd.sizeOf158
  v46 := Tryd.zeroValue158
  t51 := Tryd.underlying182
  a51 := Tryd.isAgg182
  z51 := Tryd.sizeOf182
  v51 := Tryd.zeroValue182
  t53 := Tryd.underlying184
  a53 := Tryd.isAgg184
  z53 := Tryd.sizeOf184
  v53 := Tryd.zeroValue184
  t131 := Tryd.underlying179
  a131 := Tryd.isAgg179
  z131 := Tryd.sizeOf179
  v131 := Tryd.zeroValue179
  t182 := Tryd.underlying175
  a182 := Tryd.isAgg175
  z182 := Tryd.sizeOf175
  v182 := Tryd.zeroValue175
  t183 := Tryd.underlying176
  a183 := Tryd.isAgg176
  z183 := Tryd.sizeOf176
  v183 := Tryd.zeroValue176
  t218 := Tryd.underlying191
  a218 := Tryd.isAgg191
  z218 := Tryd.sizeOf191
  v218 := Tryd.zeroValue191
  t222 := Tryd.underlying195
  a222 := Tryd.isAgg195
  z222 := Tryd.sizeOf195
  v222 := Tryd.zeroValue195
  t228 := Tryd.underlying197
  a228 := Tryd.isAgg197
  z228 := Tryd.sizeOf197
  v228 := Tryd.zeroValue197
  t229 := Tryd.underlying198
  a229 := Tryd.isAgg198
  z229 := Tryd.sizeOf198
  v229 := Tryd.zeroValue198

theorem Wd.holds {S : Nat → Prop} {w0 w : World} {H : List Ent} (hW : Wd S w0 H w) {k b o n c e : Nat} {l : List Int} (hk : H[k]? = some (Ent.vec (some ⟨b, o, none⟩) n c e 1 (l.map (.int .i64)))) : Go.Sort.Holds (Value.int .i64) w b o l.toArray ∧ b < w.heap.size := by
  obtain ⟨_, _, _, pre, sp, rfl, _, hb⟩ := hW.vecAt hk
  refine ⟨fun j hj => ⟨?_, by simp [World.frozen?, hb]⟩, (Array.getElem?_eq_some_iff.1 hb).1⟩
  have hj' : j < l.length := by simpa using hj
  refine hW.vecCell hk ?_
  rw [List.getElem?_map, List.getElem?_eq_getElem hj']
  simp [hj']
theorem sort_c (a : Option Addr) (c : Nat) (l : List Int) (hlen : l.length ≤ 100000) (w : World) (hw : Wd (fps [Ent.vec a l.length c 3 1 (l.map (.int .i64))]) w [Ent.vec a l.length c 3 1 (l.map (.int .i64))] w) :
    Ret Tryd.prog 76 [.slice a l.length c] w fun u w' => ∃ _ : Unit, u = .tuple #[] ∧ Wd (fps [Ent.vec a l.length c 3 1 (l.map (.int .i64))]) w [Ent.vec a l.length c 3 1 ((sorted l).map (.int .i64))] w' ∧ True := by
  rcases (hw.get (k := 0) rfl).2 with ⟨rfl, h0, rfl⟩ | ⟨b, pre, sp, rfl, _⟩
  · have hl : l = [] := List.eq_nil_of_length_eq_zero h0
    subst hl
    refine callsIn_wide.2 ((Go.Proofs.Any.slices_Sort_int_none sortLays none 0 w).mono fun e w' ⟨he, hw'⟩ => ⟨_, he, (), rfl, ?_, trivial⟩)
    rw [hw', show sorted [] = [] by simp [sorted]]
    exact hw
  · obtain ⟨h1, h2⟩ := hw.holds (k := 0) rfl
    refine callsIn_wide.2 ((Go.Proofs.Any.slices_Sort_int sortLays b pre.length c l w h1 h2 (by omega)).mono fun e w' ⟨he, m, os, hw'⟩ => ⟨_, he, (), rfl, ?_, trivial⟩)
    rw [hw']
    have := hw.sorted (k := 0) (m := m) (os := os) (l' := sorted l) rfl (sorted_len l)
    simpa [sorted] using this
end Go.Proofs.YtoahickmkkcneaaDoor

/- Pairs of numbers: built and compared. -/
namespace Go.Proofs.YtoahickmkkcneaaDoor
open Go Go.RowKit

section
variable {N : Nat} {ds : List Deferred} {S : Nat → Prop} {w0 : World} {L : List (Nat × Value)} {H : List Ent} {x y : Operand}
theorem built_pair (a b : Int) : Tryd.prog.built 69 [(0, .int .i64 a), (1, .int .i64 b)] = some #[.int .i64 a, .int .i64 b] := by kernel_rfl
instance {a b : Int} [hx : Ev L x (.int .i64 a)] [hy : Ev L y (.int .i64 b)] : RunsC Tryd.prog N ds S w0 L H (.build 69 #[(0, x), (1, y)]) (.agg #[.int .i64 a, .int .i64 b]) :=
  ⟨fun _ h => (by cases h), fun _ _ h => (by cases h), fun _ _ _ _ _ ac w hF _ => by
    have h := run_build (P := Tryd.prog) w 69 #[(0, .int .i64 a), (1, .int .i64 b)] _ (built_pair a b)
    simp [execOp, hx.eq _ _ _ hF, hy.eq _ _ _ hF, h]⟩
theorem equal_pair (x0 y0 x1 y1 : Int) (w : World) (d : Nat) : (Op.equalIn (d + 2) 69 (.agg #[.int .i64 x0, .int .i64 x1]) (.agg #[.int .i64 y0, .int .i64 y1])).run Tryd.prog w = .ok (decide (x0 = y0) && decide (x1 = y1)) w := by
  obtain ⟨i, hi⟩ : ∃ i, Tryd.prog.info? 3 = some i := Option.isSome_iff_exists.1 (by kernel_rfl)
  have hc : Tryd.prog.cellsOf 3 = 1 := by kernel_rfl
  rw [run_equalIn_array (P := Tryd.prog) (w := w) (d + 1) #[.int .i64 x0, .int .i64 x1] #[.int .i64 y0, .int .i64 y1] Tryd.underlying69 hi, hc]
  simp [Op.eqItems, List.range_succ, part, Tryd.isAgg3, Tryd.sizeOf3, Op.equalIn, go_sem]
  by_cases h0 : x0 = y0 <;> by_cases h1 : x1 = y1 <;> simp [h0, h1]
theorem eq_pair (x0 y0 x1 y1 : Int) (w : World) : (binOp .eql 69 (.agg #[.int .i64 x0, .int .i64 x1]) (.agg #[.int .i64 y0, .int .i64 y1])).run Tryd.prog w = .ok (.bool (decide (x0 = y0) && decide (x1 = y1))) w := by
  have := equal_pair x0 y0 x1 y1 w 9998
  simp [go_sem, this]
theorem ne_pair (x0 y0 x1 y1 : Int) (w : World) : (binOp .neq 69 (.agg #[.int .i64 x0, .int .i64 x1]) (.agg #[.int .i64 y0, .int .i64 y1])).run Tryd.prog w = .ok (.bool (!(decide (x0 = y0) && decide (x1 = y1)))) w := by
  have := equal_pair x0 y0 x1 y1 w 9998
  simp [go_sem, this]
instance (x0 y0 x1 y1 : Int) : EqVal Tryd.prog 69 (.agg #[.int .i64 x0, .int .i64 x1]) (.agg #[.int .i64 y0, .int .i64 y1]) (decide (x0 = y0) && decide (x1 = y1)) := ⟨fun op x y w => by unfold eqGuard; cases op <;> simp [go_sem], eq_pair _ _ _ _, ne_pair _ _ _ _⟩
end
end Go.Proofs.YtoahickmkkcneaaDoor

/- slices.Values, Collect, Sorted at numbers; graph.places, graph.BackOf: what each returns. -/
namespace Go.Proofs.YtoahickmkkcneaaDoor
open Go Go.RowKit
attribute [local irreducible] wpListIn Code.wpIn Exit.then Exit.inBlock bodyPost wpQuiet wpAnyIn wpAnyH bodyPostM
set_option maxHeartbeats 4000000

theorem values_c (v : Value) (hv : ∃ a n c, v = .slice a n c) (w0 : World) : Ret Tryd.prog 106 [v] w0 fun u w' => ∃ p : Nat, u = .func (.func 133) #[] #[.pointer (some ⟨p, 0, none⟩)] ∧ Wd NoS w0 [Ent.box p [v] 35] w' ∧ True := by
  obtain ⟨a, n, c, rfl⟩ := hv
  refine ret_enter Tryd.func106 rfl Tryd.ntmps106 rfl (Wd.nil NoS w0) ?_
  repeat (first | refine g_op rfl ?_ | refine g_then ?_ | refine g_nil ?_ | refine g_region ?_ | refine g_seq ?_ | refine g_opS rfl ?_ | refine g_box rfl fun _ _ => ?_ | refine g_ret ?_)
  exact g_ret1 rfl fun w hw => ⟨_, rfl, hw, trivial⟩
theorem valuesStops {α : Type} (enc : α → Int) {K : Nat → Prop} {w0 w : World} {Bs n c : Nat} {a : Option Addr} {zs : List Int} {xs : List α} (hsl : SlAt w0 (.slice a n c) 1 zs IntV) (hlen : zs.length ≤ 100000) (hK : ∀ b, b < w0.heap.size → K b) (hw : Chg NoS w0 w)
    (hB : CellsAt w0 Bs 0 [.slice a n c]) (hxs : xs.map enc = zs) :
    SeqStopsK (FW none) 4 Tryd.prog 133 #[.pointer (some ⟨Bs, 0, none⟩)] (fun x => #[.int .i64 (enc x)]) (KeepB K) (fun ys => ys = xs) (fun pre => pre <+: xs) xs.length w := by
  intro l J Jx W hW hJ hJx hY h0
  have hz : ∀ p v, w0.cell? p = some v → W.cell? p = some v := fun p v hp => by
    have h3 := cell_keep hw hp
    exact (hW.cell (World.block_lt_of_cell? w _ h3)).trans h3
  have hxl : xs.length = zs.length := by have := congrArg List.length hxs; rwa [List.length_map] at this
  have hn : n = zs.length := hsl.at.1
  have keepW : ∀ w, (∀ p v, w0.cell? p = some v → w.cell? p = some v) → ∀ w', KeepB K w w' → ∀ p v, w0.cell? p = some v → w'.cell? p = some v := fun w h w' hk p v hp => (hk.cell (hK _ (World.block_lt_of_cell? w0 p hp))).trans (h p v hp)
  have hBi : CellsIs W Bs 0 _ := ⟨fun j v hj => hz _ _ (hB j v hj)⟩
  refine callsIn_deep (m := 0) (CallsIn.mono (R := fun e w' => ∃ v, e = .returned v ∧ ((∃ ys, ys = xs ∧ J ys w') ∨ (∃ pre, pre <+: xs ∧ Jx pre w'))) ?_ fun e w' ⟨v, he, hh⟩ => ⟨⟨v, he⟩, hh⟩)
  show Ret Tryd.prog 133 [.func (.yield l) #[] #[], .pointer (some ⟨Bs, 0, none⟩)] W fun _ W' => (∃ ys, ys = xs ∧ J ys W') ∨ (∃ pre, pre <+: xs ∧ Jx pre W')
  refine ret_enter Tryd.func133 rfl Tryd.ntmps133 rfl (Wd.nil NoS W) ?_
  repeat (first | refine g_op rfl ?_ | refine g_then ?_ | refine g_nil ?_ | refine g_region ?_ | refine g_seq ?_ | refine g_block ?_)
  intro a1 w1 hS1
  have hJ1 := jchg hJ hS1.wd.chg h0
  have hz1 := fun p v h => cell_keep hS1.wd.chg (hz p v h)
  have hF1 := hS1.fr
  refine c_loop (fun (i : Nat) a' w => i ≤ n ∧ Fr 16 [] [(7, .int .i64 (i : Int)), (5, .slice a n c), (6, .int .i64 n), (0, .func (.yield l) #[] #[])] a' ∧ J (xs.take i) w ∧ ∀ p v, w0.cell? p = some v → w.cell? p = some v) (fun i => n - i) 0 ⟨Nat.zero_le _, hF1.to (by repeat (first | exact trivial | refine ⟨rfl, ?_⟩)), by simpa using hJ1, hz1⟩ ?_
  rintro i a' w2 ⟨hi, hF, hJi, hzi⟩
  refine rebase hF ?_
  repeat (first | refine g_op rfl ?_ | refine g_then ?_ | refine g_nil ?_ | refine g_region ?_ | refine g_seq ?_)
  refine g_cond (fun h1 => ?_) (fun h1 => ?_)
  · have hlt : i < n := by simpa using h1
    obtain ⟨x, hx⟩ : ∃ x, xs[i]? = some x := ⟨_, List.getElem?_eq_getElem (by omega)⟩
    have hzx : zs[i]? = some (enc x) := by rw [← hxs, List.getElem?_map, hx]; rfl
    have hsl2 : SlAt w2 (.slice a n c) 1 zs IntV := SlAt.mono (w := w0) (w' := w2) (V := IntV) (fun _ _ h => h) hzi hsl
    obtain ⟨_, _, _, vb, vo, hva, hvel⟩ := hsl2.at
    have had : AddrIs a vb vo := ⟨hva (ne_of_get hzx)⟩
    have hli : LtIs i n := ⟨hlt⟩
    obtain ⟨cs, hcs, rfl, _⟩ := hvel i _ hzx
    have hci : CellsIs w2 vb (vo + i * 1) _ := ⟨hcs⟩
    have htk : xs.take i ++ [x] = xs.take (i + 1) := by rw [List.take_add_one, hx]; rfl
    repeat (first | refine g_op rfl ?_ | refine g_then ?_ | refine g_nil ?_ | refine g_region ?_ | refine g_seq ?_ | refine g_block ?_ | refine g_skip ?_)
    refine g_yield (m := 3) (fun w v w' => (v = .bool true ∧ J (xs.take (i + 1)) w' ∧ KeepB K w w') ∨ (v = .bool false ∧ Jx (xs.take (i + 1)) w')) rfl (fun w3 hw => ?_) fun v w3 w' hw hR a hF => ?_
    · have := hY (xs.take i) x w3 (jchg hJ hw.chg hJi) (by rw [List.length_take]; omega)
      rw [htk] at this
      exact this.mono fun e W' h => h.elim (fun ⟨h1, h2, h3⟩ => ⟨_, h1, .inl ⟨rfl, h2, h3⟩⟩) fun ⟨h1, h2⟩ => ⟨_, h1, .inr ⟨rfl, h2⟩⟩
    rcases hR with ⟨rfl, hJ', hk⟩ | ⟨rfl, hJ'⟩
    · have hz' := keepW w3 (fun p v h => cell_keep hw.chg (hzi p v h)) w' hk
      refine rebase hF ?_
      repeat (first | refine g_op rfl ?_ | refine g_then ?_ | refine g_nil ?_ | refine g_region ?_ | refine g_opS rfl ?_ | refine g_inBlock ?_ | refine g_skip ?_ | refine g_condF ?_ | refine g_add rfl (by omega) (by omega) ?_)
      exact fun a w3 hS => ⟨i + 1, ⟨hlt, hS.fr.to (by repeat (first | exact trivial | refine ⟨rfl, ?_⟩)), jchg hJ hS.wd.chg hJ', fun p v h => cell_keep hS.wd.chg (hz' p v h)⟩, by omega⟩
    · refine rebase hF ?_
      repeat (first | refine g_op rfl ?_ | refine g_then ?_ | refine g_nil ?_ | refine g_condT ?_ | refine g_ret ?_ | refine g_thenRet ?_ | refine g_blockRet ?_)
      exact g_ret0 rfl fun w3 hw3 => .inr ⟨_, List.take_prefix _ _, jchg hJx hw3.chg hJ'⟩
  · have hge : i = n := by have := h1; simp at this; omega
    repeat (first | refine g_exit ?_ | refine g_thenExit ?_ | refine g_exitHere ?_)
    refine g_end0 rfl fun w3 hw3 => .inl ⟨xs, rfl, ?_⟩
    rw [List.take_of_length_le (by omega)] at hJi
    exact jchg hJ hw3.chg hJi
theorem appendSeq_c {Bs n c : Nat} {a : Option Addr} (zs : List Int) (hlen : zs.length ≤ 100000) (w0 : World) (hsl : SlAt w0 (.slice a n c) 1 zs IntV) (hB : CellsAt w0 Bs 0 [.slice a n c]) :
    Ret Tryd.prog 148 [.slice none 0 0, (Value.func (.func 133) #[] #[.pointer (some ⟨Bs, 0, none⟩)])] w0 fun u w' => ∃ x : Option Addr × Nat, u = .slice x.1 zs.length x.2 ∧ Wd NoS w0 [Ent.vec x.1 zs.length x.2 3 1 (zs.map (.int .i64))] w' ∧ True := by
  refine ret_enterM Tryd.func148 rfl Tryd.ntmps148 rfl (Wd.nil NoS w0) ?_
  repeat (first | refine g_op rfl ?_ | refine g_then ?_ | refine g_nil ?_ | refine g_region ?_ | refine g_seq ?_ | refine g_box rfl fun _ _ => ?_ | refine g_block ?_)
  rename_i p2 _
  refine g_nilVec 3 1 ?_
  refine g_fix (L' := [(6, (Value.func (.func 133) #[] #[.pointer (some ⟨Bs, 0, none⟩)])), (2, .pointer (some ⟨p2, 0, none⟩))]) (by repeat (first | exact trivial | refine ⟨rfl, ?_⟩)) (List.Sublist.refl _) ?_
  refine g_sel [1, 0] (by decide) ?_
  refine g_rangeO (α := Int) (gf := 133) (lb := [.pointer (some ⟨Bs, 0, none⟩)]) [] (fun s : List Int × Option Addr × Nat => [Ent.box p2 [.slice s.2.1 s.1.length s.2.2] 35, Ent.vec s.2.1 s.1.length s.2.2 3 1 (s.1.map (.int .i64))])
    (fun s => ⟨by intro e he; simp only [List.mem_cons, List.not_mem_nil, or_false] at he; rcases he with rfl | rfl <;> infer_instance⟩) zs (encs := fun x => #[.int .i64 x])
    (fun w hw => valuesStops (fun x => x) hsl hlen (fun b hb => ⟨hb, fun h => h⟩) hw.chg hB (by simp))
    (fun pre s => s.1 = pre) ([], none, 0) rfl (List.Sublist.refl _) (fun _ => rfl)
    (fun x => [(7, .int .i64 x), (2, .pointer (some ⟨p2, 0, none⟩))]) (fun x => [(5, .int .i64 x), (2, .pointer (some ⟨p2, 0, none⟩))]) (fun x a h => ?_) (fun l x s R => ?_) (fun l pre x s R hI hlt => ?_) fun D s hD hI => ?_
  · have h2 := (h.to (L' := [(2, .pointer (some ⟨p2, 0, none⟩))]) (by repeat (first | exact trivial | refine ⟨rfl, ?_⟩))).putOk (d := 7) rfl (.int .i64 x)
    have e : (#[7].zip #[Value.int .i64 x]).foldl (fun (t : Array Value) (q : Tmp × Value) => t.setIfInBounds q.1 q.2) a.tmps = a.tmps.setIfInBounds 7 (.int .i64 x) := by simp
    refine ⟨Eq.trans (congrArg Array.size e) h2.size, rfl, fun p hp => ?_⟩
    exact Eq.trans (congrArg (fun t : Array Value => t[p.1]?) e) (h2.slot p hp)
  · repeat (first | refine g_op rfl ?_ | refine g_then ?_ | refine g_nil ?_ | refine g_region ?_)
    exact g_done (by repeat (first | exact trivial | refine ⟨rfl, ?_⟩)) (List.Sublist.refl _)
  · obtain ⟨s, sa, sc⟩ := s
    simp only at hI
    subst hI
    simp only [List.cons_append, List.nil_append]
    repeat (first | refine g_op rfl ?_ | refine g_region ?_ | refine g_block ?_ | refine g_build1 rfl rfl fun _ _ => ?_)
    rename_i bt _
    refine g_append rfl rfl (by omega) (by omega) fun a' c' => ?_
    rw [show s.map (Value.int .i64) ++ [.int .i64 x] = (s ++ [x]).map (Value.int .i64) by simp, show s.length + 1 = (s ++ [x]).length by simp]
    repeat (first | refine g_then ?_ | refine g_nil ?_ | refine g_store ?_ | refine g_inBlock ?_)
    exact g_rnd (s ++ [x], a', c') rfl (List.Sublist.cons _ (List.Sublist.refl _))
  · obtain ⟨s, sa, sc⟩ := s
    simp only at hI
    subst hI
    simp only [List.cons_append, List.nil_append]
    repeat (first | refine g_op rfl ?_ | refine g_then ?_ | refine g_nil ?_ | refine g_region ?_ | refine g_seq ?_ | refine g_inBlock ?_ | refine g_ret ?_)
    exact g_retM1 rfl hD fun w hw => ⟨(sa, sc), rfl, hw.sel [1] (by decide), trivial⟩
theorem collect_c {Bs n c : Nat} {a : Option Addr} (zs : List Int) (hlen : zs.length ≤ 100000) (w0 : World) (hsl : SlAt w0 (.slice a n c) 1 zs IntV) (hB : CellsAt w0 Bs 0 [.slice a n c]) :
    Ret Tryd.prog 132 [(Value.func (.func 133) #[] #[.pointer (some ⟨Bs, 0, none⟩)])] w0 fun u w' => ∃ x : Option Addr × Nat, u = .slice x.1 zs.length x.2 ∧ Wd NoS w0 [Ent.vec x.1 zs.length x.2 3 1 (zs.map (.int .i64))] w' ∧ True := by
  refine ret_enter Tryd.func132 rfl Tryd.ntmps132 rfl (Wd.nil NoS w0) ?_
  repeat (first | refine g_op rfl ?_ | refine g_then ?_ | refine g_nil ?_ | refine g_region ?_ | refine g_seq ?_)
  refine g_callE (val := fun x : Option Addr × Nat => .slice x.1 zs.length x.2) (E := fun x => [Ent.vec x.1 zs.length x.2 3 1 (zs.map (.int .i64))]) (φ := fun _ => True) rfl (fun w hw => appendSeq_c zs hlen w (hsl.keep keeps_int hw.chg) (hB.keep hw.chg)) fun x _ => ?_
  obtain ⟨xa, xc⟩ := x
  simp only [List.cons_append, List.nil_append]
  repeat (first | refine g_then ?_ | refine g_nil ?_ | refine g_opS rfl ?_ | refine g_ret ?_)
  exact g_ret1 rfl fun w hw => ⟨(xa, xc), rfl, hw, trivial⟩
theorem sortedOf_c {Bs n c : Nat} {a : Option Addr} (zs : List Int) (hlen : zs.length ≤ 100000) (w0 : World) (hsl : SlAt w0 (.slice a n c) 1 zs IntV) (hB : CellsAt w0 Bs 0 [.slice a n c]) :
    Ret Tryd.prog 105 [(Value.func (.func 133) #[] #[.pointer (some ⟨Bs, 0, none⟩)])] w0 fun u w' => ∃ x : Option Addr × Nat, u = .slice x.1 zs.length x.2 ∧ Wd NoS w0 [Ent.vec x.1 zs.length x.2 3 1 ((sorted zs).map (.int .i64))] w' ∧ True := by
  refine ret_enter Tryd.func105 rfl Tryd.ntmps105 rfl (Wd.nil NoS w0) ?_
  repeat (first | refine g_op rfl ?_ | refine g_then ?_ | refine g_nil ?_ | refine g_region ?_ | refine g_seq ?_)
  refine g_callE (val := fun x : Option Addr × Nat => .slice x.1 zs.length x.2) (E := fun x => [Ent.vec x.1 zs.length x.2 3 1 (zs.map (.int .i64))]) (φ := fun _ => True) rfl (fun w hw => collect_c zs hlen w (hsl.keep keeps_int hw.chg) (hB.keep hw.chg)) fun x _ => ?_
  obtain ⟨xa, xc⟩ := x
  simp only [List.cons_append, List.nil_append]
  repeat (first | refine g_op rfl ?_ | refine g_then ?_ | refine g_nil ?_ | refine g_region ?_ | refine g_seq ?_)
  refine g_callS (H1 := [Ent.vec xa zs.length xc 3 1 (zs.map (.int .i64))]) (H2 := []) (val := fun _ : Unit => .tuple #[]) (E := fun _ => [Ent.vec xa zs.length xc 3 1 ((sorted zs).map (.int .i64))]) (φ := fun _ => True) rfl (fun w hw => sort_c xa xc zs hlen w hw.pre) fun _ _ => ?_
  simp only [List.cons_append, List.nil_append]
  repeat (first | refine g_op rfl ?_ | refine g_then ?_ | refine g_nil ?_ | refine g_region ?_ | refine g_seq ?_ | refine g_opS rfl ?_ | refine g_ret ?_)
  exact g_ret1 rfl fun w hw => ⟨(xa, xc), rfl, hw, trivial⟩
def placeIn (l : List Nat) (i b : Nat) : Int := if b ∈ l.take i then (l.idxOf b : Int) else -1
theorem placeIn_step {l : List Nat} (hn : l.Nodup) {i b n : Nat} (h : l[i]? = some b) (_hb : b < n) : (((List.range n).map (placeIn l i)).set b (i : Int)) = (List.range n).map (placeIn l (i + 1)) := by
  apply List.ext_getElem?
  intro j
  rw [List.getElem?_set]
  have htk : l.take (i + 1) = l.take i ++ [b] := by rw [List.take_add_one, h]; rfl
  by_cases hj : j < n
  · rw [List.getElem?_map, List.getElem?_map, List.getElem?_range hj]
    simp only [Option.map_some, List.length_map, List.length_range]
    by_cases e : b = j
    · subst e
      rw [if_pos rfl, if_pos hj]
      unfold placeIn
      rw [htk, if_pos (by simp), show l.idxOf b = i from rk_get hn h]
    · rw [if_neg e]
      unfold placeIn
      rw [htk]
      have : j ∈ l.take i ++ [b] ↔ j ∈ l.take i := by simp [Ne.symm e]
      simp only [this]
  · rw [if_neg (by omega), List.getElem?_eq_none (by simp; omega), List.getElem?_eq_none (by simp; omega)]
theorem places_c (n : Nat) (hpos : 0 < n) (hn : n ≤ 1000) (l : List Nat) (hnd : l.Nodup) (hlt : ∀ x ∈ l, x < n) (a : Option Addr) (c m : Nat) (w0 : World) (hl : SlAt w0 (.slice a m c) 1 (l.map fun x : Nat => (x : Int)) IntV) :
    Ret Tryd.prog 104 [.int .i64 n, .slice a m c] w0 fun u w' => ∃ p : Nat, u = .slice (some ⟨p, 0, none⟩) n n ∧ Wd NoS w0 [Ent.vec (some ⟨p, 0, none⟩) n n 3 1 (((List.range n).map (placeIn l l.length)).map (.int .i64))] w' ∧ True := by
  obtain ⟨hml, hmc, hmb, lb, lo, hla, hlel⟩ := hl.at
  rw [List.length_map] at hml
  refine ret_enter Tryd.func104 rfl Tryd.ntmps104 rfl (Wd.nil NoS w0) ?_
  repeat (first | refine g_op rfl ?_ | refine g_then ?_ | refine g_nil ?_ | refine g_region ?_ | refine g_seq ?_ | refine g_build1 rfl rfl fun _ _ => ?_)
  rename_i pb _
  refine g_callE (val := fun a : Nat => .slice (some ⟨a, 0, none⟩) n n) (E := fun a => [Ent.vec (some ⟨a, 0, none⟩) n n 3 1 (List.replicate n (.int .i64 (-1)))]) (φ := fun _ => True) rfl (fun w hw => repeat_c pb 0 n (-1) w (by have := hw.vecCell (k := 0) (j := 0) rfl rfl; simpa using this) hpos hn) fun p _ => ?_
  simp only [List.cons_append, List.nil_append]
  repeat (first | refine g_op rfl ?_ | refine g_then ?_ | refine g_nil ?_ | refine g_region ?_ | refine g_seq ?_ | refine g_block ?_)
  refine g_loop (fun (i : Nat) => i ≤ m) (fun i => [(13, .int .i64 i), (11, .slice a m c), (12, .int .i64 m), (5, .slice (some ⟨p, 0, none⟩) n n)]) (fun i => [Ent.vec (some ⟨p, 0, none⟩) n n 3 1 (((List.range n).map (placeIn l i)).map (.int .i64))]) (fun i => m - i) 0 (Nat.zero_le _) ?_ fun i hi => ?_
  · have e0 : List.replicate n (Value.int .i64 (-1)) = ((List.range n).map (placeIn l 0)).map (.int .i64) := by
      rw [List.map_map]
      apply List.ext_getElem?
      intro j
      rw [List.getElem?_replicate, List.getElem?_map]
      by_cases hj : j < n
      · rw [if_pos hj, List.getElem?_range hj]; simp [placeIn]
      · rw [if_neg hj, List.getElem?_eq_none (by simp; omega)]; rfl
    rw [e0]
    exact g_done (by repeat (first | exact trivial | refine ⟨rfl, ?_⟩)) (List.Sublist.cons_cons _ (by simp))
  repeat (first | refine g_op rfl ?_ | refine g_then ?_ | refine g_nil ?_ | refine g_region ?_ | refine g_seq ?_)
  refine g_cond (fun h1 => ?_) (fun h1 => ?_)
  · have hlt1 : i < m := by simpa using h1
    obtain ⟨b, hb⟩ : ∃ b, l[i]? = some b := ⟨_, List.getElem?_eq_getElem (by omega)⟩
    have hbn := hlt b (List.mem_of_getElem? hb)
    have hli : LtIs i m := ⟨hlt1⟩
    obtain ⟨_, hcs, rfl, _⟩ := hlel i (b : Int) (by rw [List.getElem?_map, hb]; rfl)
    have had : AddrIs a lb lo := ⟨hla (fun e => by rw [List.map_eq_nil_iff] at e; rw [e] at hb; cases hb)⟩
    have hci : CellsIs w0 lb (lo + i * 1) _ := ⟨hcs⟩
    have hlb : LtIs b n := ⟨hbn⟩
    have hel : ElAt ((List.range n).map (placeIn l i)) b (placeIn l i b) := ⟨by rw [List.getElem?_map, List.getElem?_range hbn]; rfl⟩
    repeat (first | refine g_op rfl ?_ | refine g_then ?_ | refine g_nil ?_ | refine g_region ?_ | refine g_seq ?_ | refine g_opS rfl ?_ | refine g_inBlock ?_ | refine g_block ?_ | refine g_skip ?_ | refine g_add rfl (by omega) (by omega) ?_ | refine g_storeV ?_)
    rw [placeIn_step hnd hb hbn]
    exact g_next (i + 1) hlt1 (by omega) (by repeat (first | exact trivial | refine ⟨rfl, ?_⟩)) (List.Sublist.refl _)
  · have hge : i = l.length := by have := h1; simp at this; omega
    subst hge
    repeat (first | refine g_op rfl ?_ | refine g_then ?_ | refine g_nil ?_ | refine g_region ?_ | refine g_seq ?_ | refine g_exit ?_ | refine g_thenExit ?_ | refine g_exitHere ?_ | refine g_ret ?_)
    exact g_ret1 rfl fun w hw => ⟨p, rfl, hw, trivial⟩
theorem placesL_eq (bl : List LBlock) : (List.range bl.length).map (placeIn (orderL bl) (orderL bl).length) = placesL bl := by
  unfold placesL
  refine List.map_congr_left fun b _ => ?_
  unfold placeIn placeL
  rw [List.take_length]; rfl
def pairC (p : Nat × Nat) : List Value := [.int .i64 (p.1 : Int), .int .i64 (p.2 : Int)]
theorem pairC_len (p : Nat × Nat) : (pairC p).length = 2 := rfl
end Go.Proofs.YtoahickmkkcneaaDoor

/- graph.BackOf: what it returns. -/
namespace Go.Proofs.YtoahickmkkcneaaDoor
open Go Go.RowKit
attribute [local irreducible] wpListIn Code.wpIn Exit.then Exit.inBlock bodyPost wpQuiet wpAnyIn wpAnyH bodyPostM
set_option maxHeartbeats 8000000

theorem backOf_c (nm pa re : Value) (bl : List LBlock) (bs : Value) (hbsl : ∃ a n c, bs = .slice a n c) (w0 : World) (hbs : SlAt w0 bs 6 bl BlockV) (hlen : bl.length ≤ 100) (hok : GoodB bl) (hto : ∀ (b : Nat) (B : LBlock), bl[b]? = some B → B.to.Nodup) (hpos : 0 < bl.length) :
    Ret Tryd.prog 72 [.agg #[nm, pa, re, bs]] w0 fun u w' => ∃ x : Option Addr × Nat, u = .slice x.1 (backL bl).length x.2 ∧ Wd NoS w0 [Ent.vec x.1 (backL bl).length x.2 69 2 ((backL bl).flatMap pairC)] w' ∧ True := by
  classical
  obtain ⟨ba, n, bc, rfl⟩ := hbsl
  obtain ⟨hn, hnc, hnb, bb, bo, hba, hel⟩ := hbs.at
  have hl := postL_len hpos
  have ho := orderL_ord hok hpos
  refine ret_enter Tryd.func72 rfl Tryd.ntmps72 rfl (Wd.nil NoS w0) ?_
  repeat (first | refine g_op rfl ?_ | refine g_then ?_ | refine g_nil ?_ | refine g_region ?_ | refine g_seq ?_ | refine g_box rfl fun _ _ => ?_)
  rename_i p1 _
  refine g_drawH [Ent.box p1 [nm, pa, re, .slice ba n bc] 34] mixed (List.Sublist.refl _) ?_
  refine h_take 0 rfl (by decide +kernel) (List.Sublist.refl _) ?_
  refine h_take 1 rfl (by decide +kernel) (List.Sublist.refl _) ?_
  refine h_take 2 rfl (by decide +kernel) (List.Sublist.refl _) ?_
  refine h_take 3 rfl (by decide +kernel) (List.Sublist.refl _) ?_
  refine h_callE 4 (val := fun x : Option Addr × Nat => .slice x.1 (postL bl).length x.2) (E := fun x => [Ent.vec x.1 (postL bl).length x.2 3 1 ((postL bl).reverse.map intN)]) (φ := fun _ => True) rfl (by decide +kernel) (List.Sublist.refl _) (fun w hw => orderOf_c _ _ _ bl _ ⟨_, _, _, rfl⟩ w (hbs.keep keeps_block hw.chg) hlen hok hpos) fun x _ => ?_
  obtain ⟨xa, xc⟩ := x
  simp only [List.cons_append, List.nil_append]
  refine h_callE 5 (val := fun p : Nat => .slice (some ⟨p, 0, none⟩) n n) (E := fun p => [Ent.vec (some ⟨p, 0, none⟩) n n 3 1 ((placesL bl).map (.int .i64))]) (φ := fun _ => True) rfl (by decide +kernel) (List.Sublist.cons _ (List.Sublist.refl _)) (fun w hw => ?_) fun p _ => ?_
  · rw [hn]
    have := places_c bl.length hpos (by omega) (orderL bl) ho.nodup (fun x hx => hok.rch hpos ((ho.mem x).1 hx)) xa xc (postL bl).length w (ints_sl (l := orderL bl) hw (k := 0) rfl (by unfold orderL; rw [List.length_reverse]) (by omega) fun x hx => by have := hok.rch hpos ((ho.mem x).1 hx); omega)
    rw [placesL_eq] at this
    exact this
  simp only [List.cons_append, List.nil_append]
  refine h_take 6 rfl (by decide +kernel) (List.Sublist.cons _ (List.Sublist.cons _ (List.Sublist.refl _))) ?_
  refine h_end (by decide +kernel) ?_
  repeat (first | refine g_op rfl ?_ | refine g_then ?_ | refine g_nil ?_ | refine g_region ?_ | refine g_seq ?_ | refine g_block ?_)
  refine g_nilVec 69 2 ?_
  refine g_sel [0, 1] (by decide) ?_
  refine g_loop (fun (x : Nat × Option Addr × Nat) => x.1 ≤ n) (fun x => [(19, .int .i64 x.1), (4, .slice x.2.1 (backTo bl x.1).length x.2.2), (17, .slice ba n bc), (18, .int .i64 n), (3, .slice (some ⟨p, 0, none⟩) n n), (1, .pointer (some ⟨p1, 0, none⟩))]) (fun x => [Ent.vec x.2.1 (backTo bl x.1).length x.2.2 69 2 ((backTo bl x.1).flatMap pairC), Ent.vec (some ⟨p, 0, none⟩) n n 3 1 ((placesL bl).map (.int .i64))]) (fun x => n - x.1) (0, none, 0) (Nat.zero_le _) (g_done (by repeat (first | exact trivial | refine ⟨rfl, ?_⟩)) (List.Sublist.refl _)) fun x hi => ?_
  obtain ⟨b, la, lc⟩ := x
  simp only at hi ⊢
  have hbl := backTo_len bl b
  have hbb : b * bl.length ≤ 100 * 100 := Nat.mul_le_mul (by omega) (by omega)
  repeat (first | refine g_op rfl ?_ | refine g_then ?_ | refine g_nil ?_ | refine g_region ?_ | refine g_seq ?_)
  refine g_cond (fun h1 => ?_) (fun h1 => ?_)
  · have hlt : b < n := by simpa using h1
    obtain ⟨B, hB⟩ : ∃ B, bl[b]? = some B := ⟨_, List.getElem?_eq_getElem (by omega)⟩
    have had : AddrIs ba bb bo := ⟨hba (ne_of_get hB)⟩
    have hlb : LtIs b n := ⟨hlt⟩
    obtain ⟨cs, hcs, pv, lv, tv, rfl, _, _, hpv, hlv, htv⟩ := hel b B hB
    have htv0 := htv
    obtain ⟨_, _, _, _, _, rfl, _⟩ := hpv
    obtain ⟨_, _, _, _, _, rfl, _⟩ := hlv
    obtain ⟨ta, tn, tc, _, _, rfl, _⟩ := htv0
    have htn := htv.at.1
    have hci : CellsIs w0 bb (bo + b * 6) _ := ⟨hcs⟩
    have hgB := hok B (List.mem_of_getElem? hB)
    have htoOf := toOf_get hB
    repeat (first | refine g_op rfl ?_ | refine g_then ?_ | refine g_nil ?_ | refine g_region ?_ | refine g_seq ?_ | refine g_alloc rfl fun _ _ => ?_ | refine g_storeAgg ?_ | refine g_block ?_ | refine g_skip ?_)
    rename_i p6 _
    refine g_callE (val := fun q : Nat => .func (.func 133) #[] #[.pointer (some ⟨q, 0, none⟩)]) (E := fun q => [Ent.box q [.slice ta tn tc] 35]) (φ := fun _ => True) rfl (fun w hw => values_c _ ⟨_, _, _, rfl⟩ w) fun q _ => ?_
    simp only [List.cons_append, List.nil_append]
    skip
    refine g_callE (val := fun x : Option Addr × Nat => .slice x.1 B.to.length x.2) (E := fun x => [Ent.vec x.1 B.to.length x.2 3 1 ((sorted B.to).map (.int .i64))]) (φ := fun _ => True) rfl (fun w hw => sortedOf_c B.to (by omega) w (htv.keep keeps_int hw.chg) (hw.boxCells q)) fun x _ => ?_
    obtain ⟨sa, sc⟩ := x
    simp only [List.cons_append, List.nil_append]
    repeat (first | refine g_op rfl ?_ | refine g_then ?_ | refine g_nil ?_ | refine g_region ?_ | refine g_seq ?_ | refine g_block ?_)
    obtain ⟨S, hS⟩ : ∃ S : List Nat, S = (List.range bl.length).filter fun t : Nat => decide ((t : Int) ∈ toOf bl b) := ⟨_, rfl⟩
    have hsS : sorted B.to = S.map fun x : Nat => (x : Int) := by
      rw [hS]
      refine sorted_filter (hto b B hB) fun x => ⟨fun hx => ?_, fun ⟨c, e, _, hc⟩ => ?_⟩
      · have := hgB.2 x hx
        exact ⟨x.toNat, by omega, by omega, by rw [htoOf]; simpa [show ((x.toNat : Nat) : Int) = x by omega] using hx⟩
      · rw [e]; rw [htoOf] at hc; simpa using hc
    have hSl : S.length = B.to.length := by have := congrArg List.length hsS; rw [List.length_map, sorted_len] at this; omega
    have hSlt : ∀ t ∈ S, t < bl.length ∧ Edge bl b t := fun t ht => by
      rw [hS] at ht
      have := List.mem_filter.1 ht
      exact ⟨List.mem_range.1 this.1, by simpa [Edge] using this.2⟩
    rw [hsS]
    refine g_sel [0, 3, 4] (by decide) ?_
    refine g_permH (List.Perm.swap _ _ _) ?_
    refine g_loop (fun (x : Nat × List (Nat × Nat) × Option Addr × Nat) => x.1 ≤ S.length ∧ x.2.1 = backTo bl b ++ ((S.take x.1).filter fun t => decide (BackE bl b t)).map fun t => (b, t)) (fun x => [(31, .int .i64 x.1), (4, .slice x.2.2.1 x.2.1.length x.2.2.2), (29, .slice sa B.to.length sc), (30, .int .i64 B.to.length), (5, .int .i64 b), (19, .int .i64 b), (17, .slice ba n bc), (18, .int .i64 n), (3, .slice (some ⟨p, 0, none⟩) n n), (1, .pointer (some ⟨p1, 0, none⟩))])
      (fun x => [Ent.vec x.2.2.1 x.2.1.length x.2.2.2 69 2 (x.2.1.flatMap pairC), Ent.vec sa B.to.length sc 3 1 ((S.map fun x : Nat => (x : Int)).map (.int .i64)), Ent.vec (some ⟨p, 0, none⟩) n n 3 1 ((placesL bl).map (.int .i64))]) (fun x => S.length - x.1) (0, backTo bl b, la, lc) ⟨Nat.zero_le _, by simp⟩ (g_done (by repeat (first | exact trivial | refine ⟨rfl, ?_⟩)) (List.Sublist.refl _)) fun x ⟨hj, hL⟩ => ?_
    obtain ⟨j, L, la1, lc1⟩ := x
    simp only at hj hL ⊢
    have hLl : L.length ≤ 10200 := by
      rw [hL, List.length_append, List.length_map]
      have h2 := List.length_filter_le (fun t => decide (BackE bl b t)) (S.take j)
      rw [List.length_take] at h2
      omega
    repeat (first | refine g_op rfl ?_ | refine g_then ?_ | refine g_nil ?_ | refine g_region ?_ | refine g_seq ?_)
    refine g_cond (fun h2 => ?_) (fun h2 => ?_)
    · have hjl : j < B.to.length := by simpa using h2
      obtain ⟨t, ht⟩ : ∃ t, S[j]? = some t := ⟨_, List.getElem?_eq_getElem (by omega)⟩
      obtain ⟨htl, hte⟩ := hSlt t (List.mem_of_getElem? ht)
      have hbk := placeL_back hok hpos hte
      have htk : S.take (j + 1) = S.take j ++ [t] := by rw [List.take_add_one, ht]; rfl
      have hlj : LtIs j B.to.length := ⟨hjl⟩
      refine g_vec 1 rfl (by omega) fun sb so hsa => ?_
      subst hsa
      have he1 : ElAt (S.map fun x : Nat => (x : Int)) j (t : Int) := ⟨by rw [List.getElem?_map, ht]; rfl⟩
      have he2 : ElAt (placesL bl) b (placeL bl b) := ⟨by unfold placesL; rw [List.getElem?_map, List.getElem?_range (by omega)]; rfl⟩
      have he3 : ElAt (placesL bl) t (placeL bl t) := ⟨by unfold placesL; rw [List.getElem?_map, List.getElem?_range htl]; rfl⟩
      have hlt2 : LtIs t n := ⟨by omega⟩
      have hskip : ¬ BackE bl b t → L = backTo bl b ++ ((S.take (j + 1)).filter fun t => decide (BackE bl b t)).map fun t => (b, t) := fun hno => by
        rw [htk, List.filter_append, List.map_append, hL]
        simp [hno]
      repeat (first | refine g_op rfl ?_ | refine g_then ?_ | refine g_nil ?_ | refine g_region ?_ | refine g_seq ?_ | refine g_block ?_ | refine g_skip ?_)
      refine g_draw mixed (by kernel_rfl) ?_
      repeat (refine q_op rfl ?_)
      generalize hd1 : decide (0 ≤ placeL bl b) = d1
      cases d1
      · repeat (first | refine q_op rfl ?_ | refine q_pass rfl ?_ | refine q_nil ?_)
        have hno : ¬ BackE bl b t := fun h => by have := (hbk.2 h).1; simp [this] at hd1
        repeat (first | refine g_then ?_ | refine g_nil ?_ | refine g_region ?_ | refine g_opS rfl ?_ | refine g_inBlock ?_ | refine g_skip ?_ | refine g_condF ?_ | refine g_add rfl (by omega) (by omega) ?_)
        exact g_next (j + 1, L, la1, lc1) ⟨by simp only; omega, hskip hno⟩ (by simp only; omega) (by repeat (first | exact trivial | refine ⟨rfl, ?_⟩)) (List.Sublist.refl _)
      · repeat (first | refine q_op rfl ?_ | refine q_open ?_ | refine q_nil ?_)
        have hp0 : 0 ≤ placeL bl b := by simpa using hd1
        repeat (refine g_then ?_)
        refine g_cond (fun h3 => ?_) (fun h3 => ?_)
        · have hyes : BackE bl b t := hbk.1 ⟨hp0, by simpa using h3⟩
          repeat (first | refine g_op rfl ?_ | refine g_region ?_ | refine g_build1 rfl rfl fun _ _ => ?_)
          rename_i bt _
          refine g_append rfl rfl (by omega) (by omega) fun a' c' => ?_
          rw [show L.flatMap pairC ++ [.int .i64 (b : Int), .int .i64 (t : Int)] = (L ++ [(b, t)]).flatMap pairC by simp [pairC], show L.length + 1 = (L ++ [(b, t)]).length by simp]
          repeat (first | refine g_then ?_ | refine g_nil ?_ | refine g_region ?_ | refine g_opS rfl ?_ | refine g_inBlock ?_ | refine g_add rfl (by omega) (by omega) ?_)
          refine g_next (j + 1, L ++ [(b, t)], a', c') ⟨by simp only; omega, ?_⟩ (by simp only; omega) (by repeat (first | exact trivial | refine ⟨rfl, ?_⟩)) (List.Sublist.cons _ (List.Sublist.refl _))
          simp only
          rw [htk, List.filter_append, List.map_append, hL]
          simp [hyes]
        · have hno : ¬ BackE bl b t := fun h => by have := (hbk.2 h).2; simp [this] at h3
          repeat (first | refine g_then ?_ | refine g_nil ?_ | refine g_region ?_ | refine g_opS rfl ?_ | refine g_inBlock ?_ | refine g_skip ?_ | refine g_add rfl (by omega) (by omega) ?_)
          exact g_next (j + 1, L, la1, lc1) ⟨by simp only; omega, hskip hno⟩ (by simp only; omega) (by repeat (first | exact trivial | refine ⟨rfl, ?_⟩)) (List.Sublist.refl _)
    · have hge : j = S.length := by have := h2; simp at this; omega
      repeat (first | refine g_then ?_ | refine g_nil ?_ | refine g_region ?_ | refine g_opS rfl ?_ | refine g_inBlock ?_ | refine g_add rfl (by omega) (by omega) ?_ | refine g_exit ?_ | refine g_thenExit ?_ | refine g_exitHere ?_)
      rw [hge, List.take_length, hS, backRow_of hok, ← backTo_succ] at hL
      subst hL
      exact g_next (b + 1, la1, lc1) (by simp only; omega) (by simp only; omega) (by repeat (first | exact trivial | refine ⟨rfl, ?_⟩)) (List.Sublist.cons_cons _ (List.Sublist.cons _ (List.Sublist.refl _)))
  · have hge : b = bl.length := by have := h1; simp at this; omega
    repeat (first | refine g_op rfl ?_ | refine g_then ?_ | refine g_nil ?_ | refine g_region ?_ | refine g_seq ?_ | refine g_exit ?_ | refine g_thenExit ?_ | refine g_exitHere ?_ | refine g_ret ?_)
    exact g_ret1 rfl fun w hw => ⟨(la, lc), by rw [hge]; rfl, by rw [hge] at hw; exact hw.sel [0] (by decide), trivial⟩
end Go.Proofs.YtoahickmkkcneaaDoor
